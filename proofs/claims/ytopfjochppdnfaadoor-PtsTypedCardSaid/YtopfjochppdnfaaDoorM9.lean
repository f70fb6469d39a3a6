/- Own texts, merged: PtPlain, PtsTypedDoes. -/
import Derived.Test.YtopfjochppdnfaaDoorM8
set_option linter.unusedVariables false
set_option linter.unusedSimpArgs false
section
/- Do things' values go by names alone? By the law. -/
set_option maxRecDepth 8000
set_option maxHeartbeats 2000000
namespace Go.Proofs.YtopfjochppdnfaaDoor
open Go.Abs
theorem plain_5 {c : Cd} (wc : WfC c) {h h0 : AHeap} {t bid : Nat} {b : Bd} (hb : (slL c.Threads)[t]? = some b) (ho0 : h0.objs bid = some (.row 51 b.cells)) (hl0 : bid < h0.next) (k0 : Keeps h h0 (fun _ => False)) (Q : AExit → Fr → AHeap → Prop)
    (hR : ∀ hh, Keeps h hh (fun _ => False) → Q .ret (frOf [(2, .bool false)]) hh)
    (hQ : ∀ hh, Keeps h hh (fun _ => False) → (∀ (a : Nat) (x : In), (slL b.Code)[a]? = some x → PlainI c b x) → Q (.exit 2) (frOf [(1, .iptr c.cells), (10, slAV 3 Api_Body.cells c.Threads), (11, .int .i64 (slL c.Threads).length), (12, .int .i64 t)]) hh) :
    WP Tryd.prog 113 (.loop c_padlocklaw11_plain_5) (frOf [(1, .iptr c.cells), (4, .ptr bid 0), (10, slAV 3 Api_Body.cells c.Threads), (11, .int .i64 (slL c.Threads).length), (12, .int .i64 t), (17, slAV 8 Api_Instr.cells b.Code), (18, .int .i64 (slL b.Code).length), (19, .int .i64 0)]) h0 Q := by
  have hcl := (wc.slo t b hb).2
  obtain ⟨I, hI⟩ : ∃ I : Nat → Fr → AHeap → Prop, I = (fun n fr hh => ∃ a : Nat, n = (slL b.Code).length - a ∧ a ≤ (slL b.Code).length ∧ Keeps h hh (fun _ => False) ∧ hh.objs bid = some (.row 51 b.cells) ∧ bid < hh.next ∧ (∀ (a' : Nat) (x : In), a' < a → (slL b.Code)[a']? = some x → PlainI c b x) ∧ fr = frOf [(1, .iptr c.cells), (4, .ptr bid 0), (10, slAV 3 Api_Body.cells c.Threads), (11, .int .i64 (slL c.Threads).length), (12, .int .i64 t), (17, slAV 8 Api_Instr.cells b.Code), (18, .int .i64 (slL b.Code).length), (19, .int .i64 a)]) := ⟨_, rfl⟩
  refine WP_loop mixed_ (by kernel_rfl) I (slL b.Code).length (by rw [hI]; exact ⟨0, rfl, Nat.zero_le _, k0, ho0, hl0, fun a' x h => by omega, rfl⟩) ?_
  clear ho0 hl0 k0
  intro n fr hh hi
  rw [hI] at hi
  obtain ⟨a, rfl, ha, kp, ho, hlt, hpl, rfl⟩ := hi
  apply padlocklaw11_plain_loop5
  (repeat (first | simp -dsimp -implicitDefEqProofs (disch := omega) only [↓rP, rQ, rO, rL, ↓reduceIte, Nat.reduceEqDiff, Nat.reduceAdd, Nat.reduceLeDiff, pBuild, fillA, ↓tyr] | refine Cut.go ?_))
  refine Split_lt (fun hkl => ?_) (fun hkl => ?_)
  · obtain ⟨x, hx⟩ : ∃ x, (slL b.Code)[a]? = some x := ⟨_, List.getElem?_eq_getElem (by omega)⟩
    have w := wc.ins t a b x hb hx
    have more : PlainI c b x → ∀ (a' : Nat) (x : In), a' < a + 1 → (slL b.Code)[a']? = some x → PlainI c b x := fun hp a' x' h1 h2 => by
      by_cases e : a' = a
      · subst e; rw [hx] at h2; cases h2; exact hp
      · exact hpl a' x' (by omega) h2
    -- the rows of the instruction, and of the name
    have kA : ∀ to : Lo, Keeps h ((hh.push (.row 58 x.cells)).push (.row 69 to.cells)) (fun _ => False) := fun to => (kp.go (Keeps.one _ _)).go (Keeps.one _ _)
    have hbG : ∀ to : Lo, ((hh.push (.row 58 x.cells)).push (.row 69 to.cells)).objs bid = some (.row 51 b.cells) := fun to => by rw [push_old (by simp; omega), push_old hlt]; exact ho
    have hxG : ∀ to : Lo, ((hh.push (.row 58 x.cells)).push (.row 69 to.cells)).objs hh.next = some (.row 58 x.cells) := fun to => by rw [push_old (by simp)]; exact push_new _ _
    have e1 : (hh.push (.row 58 x.cells)).next = hh.next + 1 := rfl
    have hbP : ∀ (o : AObj) (off : Nat) (q : Option Nat) (K : AV → Prop), pLoad q (.ptr bid off) ((hh.push (.row 58 x.cells)).push o) K = pCells q b.cells off K := fun o off q K => pLoad_ptr (by rw [push_old (by simp; omega), push_old hlt]; exact ho) q K
    have hxP : ∀ (o : AObj) (off : Nat) (q : Option Nat) (K : AV → Prop), pLoad q (.ptr hh.next off) ((hh.push (.row 58 x.cells)).push o) K = pCells q x.cells off K := fun o off q K => pLoad_ptr (by rw [push_old (by simp)]; exact push_new _ _) q K
    (repeat (first | simp -dsimp -implicitDefEqProofs (disch := omega) only [↓rP, rQ, rO, rL, ↓reduceIte, Nat.reduceEqDiff, Nat.reduceAdd, Nat.reduceLeDiff, pBuild, fillA, ↓tyr, pIndexAddr_slAV hx] | refine Cut.go ?_))
    by_cases hop : x.Op = 1 ∨ x.Op = 5 ∨ x.Op = 6
    · obtain ⟨w1, w2⟩ := w.items hop
      obtain ⟨to, hto, huni⟩ : ∃ to : Lo, ((x.Op = 1 ∧ getI (slL b.Slots) x.Dst = some to) ∨ (x.Op = 5 ∧ getI (slL c.Globals) x.N = some to) ∨ (x.Op = 6 ∧ getI (recL c x.Rec) x.N = some to)) ∧ ∀ to' : Lo, ((x.Op = 1 ∧ getI (slL b.Slots) x.Dst = some to') ∨ (x.Op = 5 ∧ getI (slL c.Globals) x.N = some to') ∨ (x.Op = 6 ∧ getI (recL c x.Rec) x.N = some to')) → to' = to := by
        rcases hop with e | e | e
        · obtain ⟨l, hl⟩ := getI_some.1 (w.dst (Or.inl e))
          refine ⟨l, Or.inl ⟨e, hl⟩, ?_⟩
          rintro to' (⟨_, h2⟩ | ⟨h1, _⟩ | ⟨h1, _⟩)
          · rw [hl] at h2; cases h2; rfl
          · omega
          · omega
        · obtain ⟨l, hl⟩ := getI_some.1 (w.glob (Or.inr e))
          refine ⟨l, Or.inr (Or.inl ⟨e, hl⟩), ?_⟩
          rintro to' (⟨h1, _⟩ | ⟨_, h2⟩ | ⟨h1, _⟩)
          · omega
          · rw [hl] at h2; cases h2; rfl
          · omega
        · obtain ⟨r, hr, hn, _⟩ := w.fld (Or.inr e)
          obtain ⟨l, hl⟩ := getI_some.1 hn
          have hl2 : getI (recL c x.Rec) x.N = some l := by simp only [recL, hr]; exact hl
          refine ⟨l, Or.inr (Or.inr ⟨e, hl2⟩), ?_⟩
          rintro to' (⟨h1, _⟩ | ⟨h1, _⟩ | ⟨_, h2⟩)
          · omega
          · omega
          · rw [hl2] at h2; cases h2; rfl
      -- what follows
      obtain ⟨G, hG⟩ : ∃ G, G = (hh.push (.row 58 x.cells)).push (.row 69 to.cells) := ⟨_, rfl⟩
      have kG : Keeps h G (fun _ => False) := by rw [hG]; exact kA to
      have gB : G.objs bid = some (.row 51 b.cells) := by rw [hG]; exact hbG to
      have gX : G.objs hh.next = some (.row 58 x.cells) := by rw [hG]; exact hxG to
      have gT : G.objs (hh.next + 1) = some (.row 69 to.cells) := by rw [hG]; exact push_new _ _
      have gn : G.next = hh.next + 2 := by rw [hG]; rfl
      have ldx : ∀ (off : Nat) (q : Option Nat) (K : AV → Prop), pLoad q (.ptr hh.next off) G K = pCells q x.cells off K := fun off q K => pLoad_ptr gX q K
      have ldt : ∀ (off : Nat) (q : Option Nat) (K : AV → Prop), pLoad q (.ptr (hh.next + 1) off) G K = pCells q to.cells off K := fun off q K => pLoad_ptr gT q K
      have ldb : ∀ (off : Nat) (q : Option Nat) (K : AV → Prop), pLoad q (.ptr bid off) G K = pCells q b.cells off K := fun off q K => pLoad_ptr gB q K
      have ldx2 : ∀ (o : AObj) (off : Nat) (q : Option Nat) (K : AV → Prop), pLoad q (.ptr hh.next off) (G.push o) K = pCells q x.cells off K := fun o off q K => pLoad_ptr (by rw [push_old (by omega)]; exact gX) q K
      have ldt2 : ∀ (o : AObj) (off : Nat) (q : Option Nat) (K : AV → Prop), pLoad q (.ptr (hh.next + 1) off) (G.push o) K = pCells q to.cells off K := fun o off q K => pLoad_ptr (by rw [push_old (by omega)]; exact gT) q K
      have ldb2 : ∀ (o : AObj) (off : Nat) (q : Option Nat) (K : AV → Prop), pLoad q (.ptr bid off) (G.push o) K = pCells q b.cells off K := fun o off q K => pLoad_ptr (by rw [push_old (by omega)]; exact gB) q K
      have no : meansB to = false → PlainI c b x := fun hm to' h1 h2 => by rw [huni to' h1, hm] at h2; cases h2
      have yes : ∀ y : It, slL x.Items = [y] → (y.Op = 2 → ∃ l, (slL b.Slots)[y.N]? = some l ∧ l.Kind = to.Kind ∧ l.Rec = to.Rec) → PlainI c b x := fun y h1 h2 to' h3 h4 => ⟨y, h1, by rw [huni to' h3]; exact h2⟩
      rcases hto with ⟨e, hl⟩ | ⟨e, hl⟩ | ⟨e, hl⟩
      · obtain ⟨d, ed, hl2⟩ := getI_nat hl
        (repeat (first | simp -dsimp -implicitDefEqProofs (disch := omega) only [↓rP, rQ, rO, rL, ↓reduceIte, Nat.reduceEqDiff, Nat.reduceAdd, Nat.reduceLeDiff, pBuild, fillA, ↓tyr, e, Int.reduceBEq, hbP, hxP, ed, pIndexAddr_slAV hl2] | refine Cut.go ?_))
        rw [e1, ← hG]
        refine CallsA.go (Means_does to _) ?_
        cases hm : meansB to with
        | false =>
          (repeat (first | simp -dsimp -implicitDefEqProofs (disch := omega) only [↓rP, rQ, rO, rL, ↓reduceIte, Nat.reduceEqDiff, Nat.reduceAdd, Nat.reduceLeDiff, pBuild, fillA, ↓tyr, wkS a (by omega)] | refine Cut.go ?_))
          rw [loopPost_normal, hI]
          exact ⟨_, by omega, a + 1, rfl, by omega, kG, gB, by omega, more (no hm), rfl⟩
        | true =>
          (repeat (first | simp -dsimp -implicitDefEqProofs (disch := omega) only [↓rP, rQ, rO, rL, ↓reduceIte, Nat.reduceEqDiff, Nat.reduceAdd, Nat.reduceLeDiff, pBuild, fillA, ↓tyr, ldx] | refine Cut.go ?_))
          by_cases hone : (slL x.Items).length = 1
          · obtain ⟨y, hy⟩ := List.length_eq_one_iff.1 hone
            have hy0 : (slL x.Items)[0]? = some y := by rw [hy]; rfl
            have d1 : (((slL x.Items).length : Int) != 1) = false := by rw [hone]; rfl
            have ix0 : ∀ K : AV → Prop, pIndexAddr (.slice 3) (slAV 3 Api_Item.cells x.Items) (.int .i64 0) K = K (.iptr y.cells) := fun K => pIndexAddr_slAV (k := 0) hy0 .i64 K
            have yin := w1 y (by rw [hy]; simp)
            by_cases h3 : y.Op = 3
            · have d3 : (y.Op == 3) = true := by rw [beqI]; exact decide_eq_true h3
              have q1 : (y.Op == 1) = false := by rw [beqI]; exact decide_eq_false (by omega)
              (repeat (first | simp -dsimp -implicitDefEqProofs (disch := omega) only [↓rP, rQ, rO, rL, ↓reduceIte, Nat.reduceEqDiff, Nat.reduceAdd, Nat.reduceLeDiff, pBuild, fillA, ↓tyr, d1, ldx, ix0, d3, q1] | refine Cut.go ?_))
              exact hR G kG
            · have d3 : (y.Op == 3) = false := by rw [beqI]; exact decide_eq_false h3
              by_cases hp : y.Op = 1
              · have q1 : (y.Op == 1) = true := by rw [beqI]; exact decide_eq_true hp
                have q2 : (y.Op == 2) = false := by rw [beqI]; exact decide_eq_false (by omega)
                by_cases hN : y.N = 0
                · have qN : (((y.N : Nat) : Int) != 0) = false := by rw [hN]; rfl
                  (repeat (first | simp -dsimp -implicitDefEqProofs (disch := omega) only [↓rP, rQ, rO, rL, ↓reduceIte, Nat.reduceEqDiff, Nat.reduceAdd, Nat.reduceLeDiff, pBuild, fillA, ↓tyr, d1, ldx, ix0, d3, q1, q2, qN, wkS a (by omega)] | refine Cut.go ?_))
                  rw [loopPost_normal, hI]
                  exact ⟨_, by omega, a + 1, rfl, by omega, kG, gB, by omega, more (yes y hy (fun h => by omega)), rfl⟩
                · have qN : (((y.N : Nat) : Int) != 0) = true := by simp [hN]
                  (repeat (first | simp -dsimp -implicitDefEqProofs (disch := omega) only [↓rP, rQ, rO, rL, ↓reduceIte, Nat.reduceEqDiff, Nat.reduceAdd, Nat.reduceLeDiff, pBuild, fillA, ↓tyr, d1, ldx, ix0, d3, q1, qN] | refine Cut.go ?_))
                  exact hR G kG
              · have q1 : (y.Op == 1) = false := by rw [beqI]; exact decide_eq_false hp
                by_cases h2 : y.Op = 2
                · have q2 : (y.Op == 2) = true := by rw [beqI]; exact decide_eq_true h2
                  obtain ⟨l, hly⟩ : ∃ l, (slL b.Slots)[y.N]? = some l := ⟨_, List.getElem?_eq_getElem (yin h2)⟩
                  have kL : Keeps h (G.push (.row 69 l.cells)) (fun _ => False) := kG.go (Keeps.one _ _)
                  have gB2 : (G.push (.row 69 l.cells)).objs bid = some (.row 51 b.cells) := by rw [push_old (by omega)]; exact gB
                  by_cases hk : l.Kind = to.Kind
                  · have qk : (l.Kind != to.Kind) = false := by rw [bneI, decide_eq_true hk]; rfl
                    by_cases hrec : l.Rec = to.Rec
                    · have qr : (l.Rec != to.Rec) = false := by rw [bneI, decide_eq_true hrec]; rfl
                      (repeat (first | simp -dsimp -implicitDefEqProofs (disch := omega) only [↓rP, rQ, rO, rL, ↓reduceIte, Nat.reduceEqDiff, Nat.reduceAdd, Nat.reduceLeDiff, pBuild, fillA, ↓tyr, d1, ldx, ix0, d3, q1, q2, ldb, pIndexAddr_slAV hly, ldx2, ldb2, ldt2, qk, qr, wkS a (by omega)] | refine Cut.go ?_))
                      rw [loopPost_normal, hI]
                      exact ⟨_, by omega, a + 1, rfl, by omega, kL, gB2, by simp; omega, more (yes y hy (fun _ => ⟨l, hly, hk, hrec⟩)), rfl⟩
                    · have qr : (l.Rec != to.Rec) = true := by rw [bneI, decide_eq_false hrec]; rfl
                      (repeat (first | simp -dsimp -implicitDefEqProofs (disch := omega) only [↓rP, rQ, rO, rL, ↓reduceIte, Nat.reduceEqDiff, Nat.reduceAdd, Nat.reduceLeDiff, pBuild, fillA, ↓tyr, d1, ldx, ix0, d3, q1, q2, ldb, pIndexAddr_slAV hly, ldx2, ldb2, ldt2, qk, qr] | refine Cut.go ?_))
                      exact hR _ kL
                  · have qk : (l.Kind != to.Kind) = true := by rw [bneI, decide_eq_false hk]; rfl
                    (repeat (first | simp -dsimp -implicitDefEqProofs (disch := omega) only [↓rP, rQ, rO, rL, ↓reduceIte, Nat.reduceEqDiff, Nat.reduceAdd, Nat.reduceLeDiff, pBuild, fillA, ↓tyr, d1, ldx, ix0, d3, q1, q2, ldb, pIndexAddr_slAV hly, ldx2, ldb2, ldt2, qk] | refine Cut.go ?_))
                    exact hR _ kL
                · have q2 : (y.Op == 2) = false := by rw [beqI]; exact decide_eq_false h2
                  (repeat (first | simp -dsimp -implicitDefEqProofs (disch := omega) only [↓rP, rQ, rO, rL, ↓reduceIte, Nat.reduceEqDiff, Nat.reduceAdd, Nat.reduceLeDiff, pBuild, fillA, ↓tyr, d1, ldx, ix0, d3, q1, q2, wkS a (by omega)] | refine Cut.go ?_))
                  rw [loopPost_normal, hI]
                  exact ⟨_, by omega, a + 1, rfl, by omega, kG, gB, by omega, more (yes y hy (fun h => absurd h h2)), rfl⟩
          · have d1 : (((slL x.Items).length : Int) != 1) = true := by simp; omega
            (repeat (first | simp -dsimp -implicitDefEqProofs (disch := omega) only [↓rP, rQ, rO, rL, ↓reduceIte, Nat.reduceEqDiff, Nat.reduceAdd, Nat.reduceLeDiff, pBuild, fillA, ↓tyr, d1] | refine Cut.go ?_))
            exact hR G kG
      · obtain ⟨d, ed, hl2⟩ := getI_nat hl
        (repeat (first | simp -dsimp -implicitDefEqProofs (disch := omega) only [↓rP, rQ, rO, rL, ↓reduceIte, Nat.reduceEqDiff, Nat.reduceAdd, Nat.reduceLeDiff, pBuild, fillA, ↓tyr, e, Int.reduceBEq, hbP, hxP, ed, pIndexAddr_slAV hl2] | refine Cut.go ?_))
        rw [e1, ← hG]
        refine CallsA.go (Means_does to _) ?_
        cases hm : meansB to with
        | false =>
          (repeat (first | simp -dsimp -implicitDefEqProofs (disch := omega) only [↓rP, rQ, rO, rL, ↓reduceIte, Nat.reduceEqDiff, Nat.reduceAdd, Nat.reduceLeDiff, pBuild, fillA, ↓tyr, wkS a (by omega)] | refine Cut.go ?_))
          rw [loopPost_normal, hI]
          exact ⟨_, by omega, a + 1, rfl, by omega, kG, gB, by omega, more (no hm), rfl⟩
        | true =>
          (repeat (first | simp -dsimp -implicitDefEqProofs (disch := omega) only [↓rP, rQ, rO, rL, ↓reduceIte, Nat.reduceEqDiff, Nat.reduceAdd, Nat.reduceLeDiff, pBuild, fillA, ↓tyr, ldx] | refine Cut.go ?_))
          by_cases hone : (slL x.Items).length = 1
          · obtain ⟨y, hy⟩ := List.length_eq_one_iff.1 hone
            have hy0 : (slL x.Items)[0]? = some y := by rw [hy]; rfl
            have d1 : (((slL x.Items).length : Int) != 1) = false := by rw [hone]; rfl
            have ix0 : ∀ K : AV → Prop, pIndexAddr (.slice 3) (slAV 3 Api_Item.cells x.Items) (.int .i64 0) K = K (.iptr y.cells) := fun K => pIndexAddr_slAV (k := 0) hy0 .i64 K
            have yin := w1 y (by rw [hy]; simp)
            by_cases h3 : y.Op = 3
            · have d3 : (y.Op == 3) = true := by rw [beqI]; exact decide_eq_true h3
              have q1 : (y.Op == 1) = false := by rw [beqI]; exact decide_eq_false (by omega)
              (repeat (first | simp -dsimp -implicitDefEqProofs (disch := omega) only [↓rP, rQ, rO, rL, ↓reduceIte, Nat.reduceEqDiff, Nat.reduceAdd, Nat.reduceLeDiff, pBuild, fillA, ↓tyr, d1, ldx, ix0, d3, q1] | refine Cut.go ?_))
              exact hR G kG
            · have d3 : (y.Op == 3) = false := by rw [beqI]; exact decide_eq_false h3
              by_cases hp : y.Op = 1
              · have q1 : (y.Op == 1) = true := by rw [beqI]; exact decide_eq_true hp
                have q2 : (y.Op == 2) = false := by rw [beqI]; exact decide_eq_false (by omega)
                by_cases hN : y.N = 0
                · have qN : (((y.N : Nat) : Int) != 0) = false := by rw [hN]; rfl
                  (repeat (first | simp -dsimp -implicitDefEqProofs (disch := omega) only [↓rP, rQ, rO, rL, ↓reduceIte, Nat.reduceEqDiff, Nat.reduceAdd, Nat.reduceLeDiff, pBuild, fillA, ↓tyr, d1, ldx, ix0, d3, q1, q2, qN, wkS a (by omega)] | refine Cut.go ?_))
                  rw [loopPost_normal, hI]
                  exact ⟨_, by omega, a + 1, rfl, by omega, kG, gB, by omega, more (yes y hy (fun h => by omega)), rfl⟩
                · have qN : (((y.N : Nat) : Int) != 0) = true := by simp [hN]
                  (repeat (first | simp -dsimp -implicitDefEqProofs (disch := omega) only [↓rP, rQ, rO, rL, ↓reduceIte, Nat.reduceEqDiff, Nat.reduceAdd, Nat.reduceLeDiff, pBuild, fillA, ↓tyr, d1, ldx, ix0, d3, q1, qN] | refine Cut.go ?_))
                  exact hR G kG
              · have q1 : (y.Op == 1) = false := by rw [beqI]; exact decide_eq_false hp
                by_cases h2 : y.Op = 2
                · have q2 : (y.Op == 2) = true := by rw [beqI]; exact decide_eq_true h2
                  obtain ⟨l, hly⟩ : ∃ l, (slL b.Slots)[y.N]? = some l := ⟨_, List.getElem?_eq_getElem (yin h2)⟩
                  have kL : Keeps h (G.push (.row 69 l.cells)) (fun _ => False) := kG.go (Keeps.one _ _)
                  have gB2 : (G.push (.row 69 l.cells)).objs bid = some (.row 51 b.cells) := by rw [push_old (by omega)]; exact gB
                  by_cases hk : l.Kind = to.Kind
                  · have qk : (l.Kind != to.Kind) = false := by rw [bneI, decide_eq_true hk]; rfl
                    by_cases hrec : l.Rec = to.Rec
                    · have qr : (l.Rec != to.Rec) = false := by rw [bneI, decide_eq_true hrec]; rfl
                      (repeat (first | simp -dsimp -implicitDefEqProofs (disch := omega) only [↓rP, rQ, rO, rL, ↓reduceIte, Nat.reduceEqDiff, Nat.reduceAdd, Nat.reduceLeDiff, pBuild, fillA, ↓tyr, d1, ldx, ix0, d3, q1, q2, ldb, pIndexAddr_slAV hly, ldx2, ldb2, ldt2, qk, qr, wkS a (by omega)] | refine Cut.go ?_))
                      rw [loopPost_normal, hI]
                      exact ⟨_, by omega, a + 1, rfl, by omega, kL, gB2, by simp; omega, more (yes y hy (fun _ => ⟨l, hly, hk, hrec⟩)), rfl⟩
                    · have qr : (l.Rec != to.Rec) = true := by rw [bneI, decide_eq_false hrec]; rfl
                      (repeat (first | simp -dsimp -implicitDefEqProofs (disch := omega) only [↓rP, rQ, rO, rL, ↓reduceIte, Nat.reduceEqDiff, Nat.reduceAdd, Nat.reduceLeDiff, pBuild, fillA, ↓tyr, d1, ldx, ix0, d3, q1, q2, ldb, pIndexAddr_slAV hly, ldx2, ldb2, ldt2, qk, qr] | refine Cut.go ?_))
                      exact hR _ kL
                  · have qk : (l.Kind != to.Kind) = true := by rw [bneI, decide_eq_false hk]; rfl
                    (repeat (first | simp -dsimp -implicitDefEqProofs (disch := omega) only [↓rP, rQ, rO, rL, ↓reduceIte, Nat.reduceEqDiff, Nat.reduceAdd, Nat.reduceLeDiff, pBuild, fillA, ↓tyr, d1, ldx, ix0, d3, q1, q2, ldb, pIndexAddr_slAV hly, ldx2, ldb2, ldt2, qk] | refine Cut.go ?_))
                    exact hR _ kL
                · have q2 : (y.Op == 2) = false := by rw [beqI]; exact decide_eq_false h2
                  (repeat (first | simp -dsimp -implicitDefEqProofs (disch := omega) only [↓rP, rQ, rO, rL, ↓reduceIte, Nat.reduceEqDiff, Nat.reduceAdd, Nat.reduceLeDiff, pBuild, fillA, ↓tyr, d1, ldx, ix0, d3, q1, q2, wkS a (by omega)] | refine Cut.go ?_))
                  rw [loopPost_normal, hI]
                  exact ⟨_, by omega, a + 1, rfl, by omega, kG, gB, by omega, more (yes y hy (fun h => absurd h h2)), rfl⟩
          · have d1 : (((slL x.Items).length : Int) != 1) = true := by simp; omega
            (repeat (first | simp -dsimp -implicitDefEqProofs (disch := omega) only [↓rP, rQ, rO, rL, ↓reduceIte, Nat.reduceEqDiff, Nat.reduceAdd, Nat.reduceLeDiff, pBuild, fillA, ↓tyr, d1] | refine Cut.go ?_))
            exact hR G kG
      · obtain ⟨r, hr, hn, _⟩ := w.fld (Or.inr e)
        obtain ⟨d, ed, hl2⟩ := getI_nat (show getI (slL r) x.N = some to by simp only [recL, hr] at hl; exact hl)
        (repeat (first | simp -dsimp -implicitDefEqProofs (disch := omega) only [↓rP, rQ, rO, rL, ↓reduceIte, Nat.reduceEqDiff, Nat.reduceAdd, Nat.reduceLeDiff, pBuild, fillA, ↓tyr, e, Int.reduceBEq, hbP, hxP, ixI hr, ld_one, ed, pIndexAddr_slAV hl2] | refine Cut.go ?_))
        rw [e1, ← hG]
        refine CallsA.go (Means_does to _) ?_
        cases hm : meansB to with
        | false =>
          (repeat (first | simp -dsimp -implicitDefEqProofs (disch := omega) only [↓rP, rQ, rO, rL, ↓reduceIte, Nat.reduceEqDiff, Nat.reduceAdd, Nat.reduceLeDiff, pBuild, fillA, ↓tyr, wkS a (by omega)] | refine Cut.go ?_))
          rw [loopPost_normal, hI]
          exact ⟨_, by omega, a + 1, rfl, by omega, kG, gB, by omega, more (no hm), rfl⟩
        | true =>
          (repeat (first | simp -dsimp -implicitDefEqProofs (disch := omega) only [↓rP, rQ, rO, rL, ↓reduceIte, Nat.reduceEqDiff, Nat.reduceAdd, Nat.reduceLeDiff, pBuild, fillA, ↓tyr, ldx] | refine Cut.go ?_))
          by_cases hone : (slL x.Items).length = 1
          · obtain ⟨y, hy⟩ := List.length_eq_one_iff.1 hone
            have hy0 : (slL x.Items)[0]? = some y := by rw [hy]; rfl
            have d1 : (((slL x.Items).length : Int) != 1) = false := by rw [hone]; rfl
            have ix0 : ∀ K : AV → Prop, pIndexAddr (.slice 3) (slAV 3 Api_Item.cells x.Items) (.int .i64 0) K = K (.iptr y.cells) := fun K => pIndexAddr_slAV (k := 0) hy0 .i64 K
            have yin := w1 y (by rw [hy]; simp)
            by_cases h3 : y.Op = 3
            · have d3 : (y.Op == 3) = true := by rw [beqI]; exact decide_eq_true h3
              have q1 : (y.Op == 1) = false := by rw [beqI]; exact decide_eq_false (by omega)
              (repeat (first | simp -dsimp -implicitDefEqProofs (disch := omega) only [↓rP, rQ, rO, rL, ↓reduceIte, Nat.reduceEqDiff, Nat.reduceAdd, Nat.reduceLeDiff, pBuild, fillA, ↓tyr, d1, ldx, ix0, d3, q1] | refine Cut.go ?_))
              exact hR G kG
            · have d3 : (y.Op == 3) = false := by rw [beqI]; exact decide_eq_false h3
              by_cases hp : y.Op = 1
              · have q1 : (y.Op == 1) = true := by rw [beqI]; exact decide_eq_true hp
                have q2 : (y.Op == 2) = false := by rw [beqI]; exact decide_eq_false (by omega)
                by_cases hN : y.N = 0
                · have qN : (((y.N : Nat) : Int) != 0) = false := by rw [hN]; rfl
                  (repeat (first | simp -dsimp -implicitDefEqProofs (disch := omega) only [↓rP, rQ, rO, rL, ↓reduceIte, Nat.reduceEqDiff, Nat.reduceAdd, Nat.reduceLeDiff, pBuild, fillA, ↓tyr, d1, ldx, ix0, d3, q1, q2, qN, wkS a (by omega)] | refine Cut.go ?_))
                  rw [loopPost_normal, hI]
                  exact ⟨_, by omega, a + 1, rfl, by omega, kG, gB, by omega, more (yes y hy (fun h => by omega)), rfl⟩
                · have qN : (((y.N : Nat) : Int) != 0) = true := by simp [hN]
                  (repeat (first | simp -dsimp -implicitDefEqProofs (disch := omega) only [↓rP, rQ, rO, rL, ↓reduceIte, Nat.reduceEqDiff, Nat.reduceAdd, Nat.reduceLeDiff, pBuild, fillA, ↓tyr, d1, ldx, ix0, d3, q1, qN] | refine Cut.go ?_))
                  exact hR G kG
              · have q1 : (y.Op == 1) = false := by rw [beqI]; exact decide_eq_false hp
                by_cases h2 : y.Op = 2
                · have q2 : (y.Op == 2) = true := by rw [beqI]; exact decide_eq_true h2
                  obtain ⟨l, hly⟩ : ∃ l, (slL b.Slots)[y.N]? = some l := ⟨_, List.getElem?_eq_getElem (yin h2)⟩
                  have kL : Keeps h (G.push (.row 69 l.cells)) (fun _ => False) := kG.go (Keeps.one _ _)
                  have gB2 : (G.push (.row 69 l.cells)).objs bid = some (.row 51 b.cells) := by rw [push_old (by omega)]; exact gB
                  by_cases hk : l.Kind = to.Kind
                  · have qk : (l.Kind != to.Kind) = false := by rw [bneI, decide_eq_true hk]; rfl
                    by_cases hrec : l.Rec = to.Rec
                    · have qr : (l.Rec != to.Rec) = false := by rw [bneI, decide_eq_true hrec]; rfl
                      (repeat (first | simp -dsimp -implicitDefEqProofs (disch := omega) only [↓rP, rQ, rO, rL, ↓reduceIte, Nat.reduceEqDiff, Nat.reduceAdd, Nat.reduceLeDiff, pBuild, fillA, ↓tyr, d1, ldx, ix0, d3, q1, q2, ldb, pIndexAddr_slAV hly, ldx2, ldb2, ldt2, qk, qr, wkS a (by omega)] | refine Cut.go ?_))
                      rw [loopPost_normal, hI]
                      exact ⟨_, by omega, a + 1, rfl, by omega, kL, gB2, by simp; omega, more (yes y hy (fun _ => ⟨l, hly, hk, hrec⟩)), rfl⟩
                    · have qr : (l.Rec != to.Rec) = true := by rw [bneI, decide_eq_false hrec]; rfl
                      (repeat (first | simp -dsimp -implicitDefEqProofs (disch := omega) only [↓rP, rQ, rO, rL, ↓reduceIte, Nat.reduceEqDiff, Nat.reduceAdd, Nat.reduceLeDiff, pBuild, fillA, ↓tyr, d1, ldx, ix0, d3, q1, q2, ldb, pIndexAddr_slAV hly, ldx2, ldb2, ldt2, qk, qr] | refine Cut.go ?_))
                      exact hR _ kL
                  · have qk : (l.Kind != to.Kind) = true := by rw [bneI, decide_eq_false hk]; rfl
                    (repeat (first | simp -dsimp -implicitDefEqProofs (disch := omega) only [↓rP, rQ, rO, rL, ↓reduceIte, Nat.reduceEqDiff, Nat.reduceAdd, Nat.reduceLeDiff, pBuild, fillA, ↓tyr, d1, ldx, ix0, d3, q1, q2, ldb, pIndexAddr_slAV hly, ldx2, ldb2, ldt2, qk] | refine Cut.go ?_))
                    exact hR _ kL
                · have q2 : (y.Op == 2) = false := by rw [beqI]; exact decide_eq_false h2
                  (repeat (first | simp -dsimp -implicitDefEqProofs (disch := omega) only [↓rP, rQ, rO, rL, ↓reduceIte, Nat.reduceEqDiff, Nat.reduceAdd, Nat.reduceLeDiff, pBuild, fillA, ↓tyr, d1, ldx, ix0, d3, q1, q2, wkS a (by omega)] | refine Cut.go ?_))
                  rw [loopPost_normal, hI]
                  exact ⟨_, by omega, a + 1, rfl, by omega, kG, gB, by omega, more (yes y hy (fun h => absurd h h2)), rfl⟩
          · have d1 : (((slL x.Items).length : Int) != 1) = true := by simp; omega
            (repeat (first | simp -dsimp -implicitDefEqProofs (disch := omega) only [↓rP, rQ, rO, rL, ↓reduceIte, Nat.reduceEqDiff, Nat.reduceAdd, Nat.reduceLeDiff, pBuild, fillA, ↓tyr, d1] | refine Cut.go ?_))
            exact hR G kG
    · have n1 : (x.Op == 1) = false := by rw [beqI]; exact decide_eq_false (by omega)
      have n5 : (x.Op == 5) = false := by rw [beqI]; exact decide_eq_false (by omega)
      have n6 : (x.Op == 6) = false := by rw [beqI]; exact decide_eq_false (by omega)
      (repeat (first | simp -dsimp -implicitDefEqProofs (disch := omega) only [↓rP, rQ, rO, rL, ↓reduceIte, Nat.reduceEqDiff, Nat.reduceAdd, Nat.reduceLeDiff, pBuild, fillA, ↓tyr, hxP, n1, n5, n6] | refine Cut.go ?_))
      have z3 : (⟨0, 0, false⟩ : Api_Local).cells = [AV.int .i64 0, .int .i64 0, .bool false] := rfl
      rw [← z3, e1]
      refine CallsA.go (Means_does ⟨0, 0, false⟩ _) ?_
      have hm0 : meansB ⟨0, 0, false⟩ = false := rfl
      rw [hm0]
      (repeat (first | simp -dsimp -implicitDefEqProofs (disch := omega) only [↓rP, rQ, rO, rL, ↓reduceIte, Nat.reduceEqDiff, Nat.reduceAdd, Nat.reduceLeDiff, pBuild, fillA, ↓tyr, wkS a (by omega)] | refine Cut.go ?_))
      rw [loopPost_normal, hI]
      refine ⟨_, by omega, a + 1, rfl, by omega, kA _, hbG _, by simp; omega, more (fun to h1 _ => ?_), rfl⟩
      exact absurd (by rcases h1 with ⟨e, _⟩ | ⟨e, _⟩ | ⟨e, _⟩ <;> simp [e]) hop
  · (repeat (first | simp -dsimp -implicitDefEqProofs (disch := omega) only [↓rP, rQ, rO, rL, ↓reduceIte, Nat.reduceEqDiff, Nat.reduceAdd, Nat.reduceLeDiff, pBuild, fillA, ↓tyr] | refine Cut.go ?_))
    have : a = (slL b.Code).length := by omega
    subst this
    exact hQ hh kp (fun a' x' hx' => hpl a' x' (List.getElem?_eq_some_iff.1 hx').1 hx')
theorem plain_does (c : Cd) (wc : WfC c) (h : AHeap) : CallsA Tryd.prog 26 [.agg c.cells] h (fun v h2 => ∃ b : Bool, v = .bool b ∧ (b = true → PlainC c) ∧ Keeps h h2 (fun _ => False)) := by
  have ht := wc.thr
  apply padlocklaw11_plain_wp
  (repeat (first | simp -dsimp -implicitDefEqProofs (disch := omega) only [↓rP, rQ, rO, rL, ↓reduceIte, Nat.reduceEqDiff, Nat.reduceAdd, Nat.reduceLeDiff, pBuild, fillA, ↓tyr] | refine Cut.go ?_))
  obtain ⟨I, hI⟩ : ∃ I : Nat → Fr → AHeap → Prop, I = (fun n fr hh => ∃ k : Nat, n = (slL c.Threads).length - k ∧ k ≤ (slL c.Threads).length ∧ Keeps h hh (fun _ => False) ∧ (∀ (t a : Nat) (b : Bd) (x : In), t < k → (slL c.Threads)[t]? = some b → (slL b.Code)[a]? = some x → PlainI c b x) ∧ fr = frOf [(1, .iptr c.cells), (10, slAV 3 Api_Body.cells c.Threads), (11, .int .i64 (slL c.Threads).length), (12, .int .i64 k)]) := ⟨_, rfl⟩
  refine WP_loop mixed_ (by kernel_rfl) I (slL c.Threads).length (by rw [hI]; exact ⟨0, rfl, Nat.zero_le _, .refl _ _, fun t a b x ht => by omega, rfl⟩) ?_
  intro n fr hh hi
  rw [hI] at hi
  obtain ⟨k, rfl, hk, kp, hpl, rfl⟩ := hi
  apply padlocklaw11_plain_loop2
  (repeat (first | simp -dsimp -implicitDefEqProofs (disch := omega) only [↓rP, rQ, rO, rL, ↓reduceIte, Nat.reduceEqDiff, Nat.reduceAdd, Nat.reduceLeDiff, pBuild, fillA, ↓tyr] | refine Cut.go ?_))
  refine Split_lt (fun hkl => ?_) (fun hkl => ?_)
  · obtain ⟨b, hb⟩ : ∃ b, (slL c.Threads)[k]? = some b := ⟨_, List.getElem?_eq_getElem (by omega)⟩
    (repeat (first | simp -dsimp -implicitDefEqProofs (disch := omega) only [↓rP, rQ, rO, rL, ↓reduceIte, Nat.reduceEqDiff, Nat.reduceAdd, Nat.reduceLeDiff, pBuild, fillA, ↓tyr, pIndexAddr_slAV hb] | refine Cut.go ?_))
    refine plain_5 wc hb (push_new _ _) (Nat.lt_succ_self _) (kp.go (Keeps.one _ _)) _ ?_ ?_
    · intro h2 k2
      (repeat (first | simp -dsimp -implicitDefEqProofs (disch := omega) only [↓rP, rQ, rO, rL, ↓reduceIte, Nat.reduceEqDiff, Nat.reduceAdd, Nat.reduceLeDiff, pBuild, fillA, ↓tyr] | refine Cut.go ?_))
      exact ⟨false, rfl, fun h => (by cases h), k2⟩
    · intro h2 k2 hp
      (repeat (first | simp -dsimp -implicitDefEqProofs (disch := omega) only [↓rP, rQ, rO, rL, ↓reduceIte, Nat.reduceEqDiff, Nat.reduceAdd, Nat.reduceLeDiff, pBuild, fillA, ↓tyr, wkS k (by omega)] | refine Cut.go ?_))
      rw [loopPost_normal, hI]
      refine ⟨_, by omega, k + 1, rfl, by omega, k2, fun t a b' x h1 hb' hx => ?_, rfl⟩
      by_cases e : t = k
      · subst e; rw [hb] at hb'; cases hb'; exact hp a x hx
      · exact hpl t a b' x (by omega) hb' hx
  · (repeat (first | simp -dsimp -implicitDefEqProofs (disch := omega) only [↓rP, rQ, rO, rL, ↓reduceIte, Nat.reduceEqDiff, Nat.reduceAdd, Nat.reduceLeDiff, pBuild, fillA, ↓tyr] | refine Cut.go ?_))
    have : k = (slL c.Threads).length := by omega
    subst this
    exact ⟨true, rfl, fun _ t a b x hb hx => hpl t a b x (List.getElem?_eq_some_iff.1 hb).1 hb hx, kp⟩
end Go.Proofs.YtopfjochppdnfaaDoor
end

section
/- Of a record's name the sites make that record, of an array's name arrays. -/
set_option maxRecDepth 8000
set_option maxHeartbeats 1000000
namespace Go.Proofs.YtopfjochppdnfaaDoor
open Go.Abs
theorem typed_9 {c : Cd} (wc : WfC c) {h h0 : AHeap} {sid i1 i2 : Nat} {σ : Sg} {A : Rw → AV} (S0 : SetsAt h0 c σ A) (bd : Bd2 c σ) (ty : TyS c σ) (ho : h0.objs sid = some (.row 29 (setsC c A i1 i2))) (hl : sid < h0.next) (Q : AExit → Fr → AHeap → Prop)
    (hQ : ∀ hh, Keeps h0 hh (fun _ => False) → Q (.exit 0) (frOf [(1, .iptr c.cells), (3, .ptr sid 0)]) hh) :
    WP Tryd.prog 102 (.loop c_padlocklaw11_PtsTyped_9) (frOf [(1, .iptr c.cells), (3, .ptr sid 0), (50, slAV 3 Api_Body.cells c.Threads), (51, .int .i64 (slL c.Threads).length), (52, .int .i64 0)]) h0 Q := by
  have ht := wc.thr
  have lc : ∀ (H : AHeap) (K : AV → Prop), pLoad (some 5) (.iptr c.cells) H K = K (.agg c.cells) := fun H K => by rw [pLoad_iptr]; exact Api_Code.call c K
  obtain ⟨I, hI⟩ : ∃ I : Nat → Fr → AHeap → Prop, I = (fun n fr hh => ∃ k : Nat, n = (slL c.Threads).length - k ∧ k ≤ (slL c.Threads).length ∧ Keeps h0 hh (fun _ => False) ∧ fr = frOf [(1, .iptr c.cells), (3, .ptr sid 0), (50, slAV 3 Api_Body.cells c.Threads), (51, .int .i64 (slL c.Threads).length), (52, .int .i64 k)]) := ⟨_, rfl⟩
  refine WP_loop mixed_ (by kernel_rfl) I (slL c.Threads).length (by rw [hI]; exact ⟨0, rfl, Nat.zero_le _, .refl _ _, rfl⟩) ?_
  intro n fr hh hi
  rw [hI] at hi
  obtain ⟨k, rfl, hk, kp, rfl⟩ := hi
  apply padlocklaw11_PtsTyped_loop9
  (repeat simp -dsimp -implicitDefEqProofs (disch := omega) only [↓rP, rQ, rO, rL, ↓reduceIte, Nat.reduceEqDiff, Nat.reduceAdd, Nat.reduceLeDiff, pBuild, fillA, ↓tyr])
  refine Split_lt (fun hkl => ?_) (fun hkl => ?_)
  · obtain ⟨b, hb⟩ : ∃ b, (slL c.Threads)[k]? = some b := ⟨_, List.getElem?_eq_getElem (by omega)⟩
    have kp1 := kp.go (Keeps.one hh (.row 51 b.cells))
    have S1 := S0.keep kp1 (fun _ _ _ h => h)
    have ho1 : (hh.push (.row 51 b.cells)).objs sid = some (.row 29 (setsC c A i1 i2)) := by rw [kp1.objs _ hl (fun h => h)]; exact ho
    have lds : ∀ K : AV → Prop, pLoad none (.ptr sid 0) (hh.push (.row 51 b.cells)) K = K (outA i1 (slL c.Threads).length (fun t => A (.s t))) := fun K => by rw [pLoad_ptr ho1]; exact setsC_0 c A i1 i2 K
    have hst : slotsL c k = slL b.Slots := by unfold slotsL; rw [hb]
    (repeat simp -dsimp -implicitDefEqProofs (disch := omega) only [↓rP, rQ, rO, rL, ↓reduceIte, Nat.reduceEqDiff, Nat.reduceAdd, Nat.reduceLeDiff, pBuild, fillA, ↓tyr, pIndexAddr_slAV hb, ↓lc, ↓lds, outA_ix (show k < (slL c.Threads).length by omega), ld_one])
    refine CallsA.go (kinds_does S1 wc bd ty (.s k) b.Slots (lenR_s hb) (fun j hj => by simp only [locR, hst])) ?_
    (repeat simp -dsimp -implicitDefEqProofs (disch := omega) only [↓rP, rQ, rO, rL, ↓reduceIte, Nat.reduceEqDiff, Nat.reduceAdd, Nat.reduceLeDiff, pBuild, fillA, ↓tyr, wkS k (by omega)])
    rw [loopPost_normal, hI]
    exact ⟨_, by omega, k + 1, rfl, by omega, kp1, rfl⟩
  · (repeat simp -dsimp -implicitDefEqProofs (disch := omega) only [↓rP, rQ, rO, rL, ↓reduceIte, Nat.reduceEqDiff, Nat.reduceAdd, Nat.reduceLeDiff, pBuild, fillA, ↓tyr])
    exact hQ hh kp
theorem typed_15 {c : Cd} (wc : WfC c) {h0 : AHeap} {sid i1 i2 : Nat} {σ : Sg} {A : Rw → AV} (S0 : SetsAt h0 c σ A) (bd : Bd2 c σ) (ty : TyS c σ) (ho : h0.objs sid = some (.row 29 (setsC c A i1 i2))) (hl : sid < h0.next) (Q : AExit → Fr → AHeap → Prop)
    (hQ : ∀ hh, Keeps h0 hh (fun _ => False) → Q (.exit 2) (frOf [(1, .iptr c.cells), (3, .ptr sid 0)]) hh) :
    WP Tryd.prog 102 (.loop c_padlocklaw11_PtsTyped_15) (frOf [(1, .iptr c.cells), (3, .ptr sid 0), (69, slAV 3 Api_Site.cells c.Sites), (70, .int .i64 (slL c.Sites).length), (71, .int .i64 0)]) h0 Q := by
  have hs := wc.sit
  have lc : ∀ (H : AHeap) (K : AV → Prop), pLoad (some 5) (.iptr c.cells) H K = K (.agg c.cells) := fun H K => by rw [pLoad_iptr]; exact Api_Code.call c K
  obtain ⟨I, hI⟩ : ∃ I : Nat → Fr → AHeap → Prop, I = (fun n fr hh => ∃ k : Nat, n = (slL c.Sites).length - k ∧ k ≤ (slL c.Sites).length ∧ Keeps h0 hh (fun _ => False) ∧ fr = frOf [(1, .iptr c.cells), (3, .ptr sid 0), (69, slAV 3 Api_Site.cells c.Sites), (70, .int .i64 (slL c.Sites).length), (71, .int .i64 k)]) := ⟨_, rfl⟩
  refine WP_loop mixed_ (by kernel_rfl) I (slL c.Sites).length (by rw [hI]; exact ⟨0, rfl, Nat.zero_le _, .refl _ _, rfl⟩) ?_
  intro n fr hh hi
  rw [hI] at hi
  obtain ⟨k, rfl, hk, kp, rfl⟩ := hi
  apply padlocklaw11_PtsTyped_loop15
  (repeat simp -dsimp -implicitDefEqProofs (disch := omega) only [↓rP, rQ, rO, rL, ↓reduceIte, Nat.reduceEqDiff, Nat.reduceAdd, Nat.reduceLeDiff, pBuild, fillA, ↓tyr])
  refine Split_lt (fun hkl => ?_) (fun hkl => ?_)
  · obtain ⟨s, hb⟩ : ∃ s, (slL c.Sites)[k]? = some s := ⟨_, List.getElem?_eq_getElem (by omega)⟩
    have kp1 := kp.go (Keeps.one hh (.row 54 s.cells))
    have S1 := S0.keep kp1 (fun _ _ _ h => h)
    have ho1 : (hh.push (.row 54 s.cells)).objs sid = some (.row 29 (setsC c A i1 i2)) := by rw [kp1.objs _ hl (fun h => h)]; exact ho
    have lds : ∀ K : AV → Prop, pLoad none (.ptr sid 2) (hh.push (.row 54 s.cells)) K = K (outA i2 (slL c.Sites).length (fun k => A (.f k))) := fun K => by rw [pLoad_ptr ho1]; exact setsC_2 c A i1 i2 K
    have lc1 : ∀ K : AV → Prop, pLoad (some 5) (.iptr c.cells) (hh.push (.row 54 s.cells)) K = K (.agg c.cells) := lc _
    have c5 : (Api_Code.cells c).length = 5 := rfl
    have t5 : List.take 5 (Api_Code.cells c) = Api_Code.cells c := rfl
    (repeat simp -dsimp -implicitDefEqProofs (disch := omega) only [↓rP, rQ, rO, rL, ↓reduceIte, Nat.reduceEqDiff, Nat.reduceAdd, Nat.reduceLeDiff, pBuild, fillA, ↓tyr, pIndexAddr_slAV hb])
    by_cases hr : 0 ≤ s.Rec
    · obtain ⟨rr, hrr⟩ : ∃ rr, getI (slL c.Records) s.Rec = some rr := by
        rcases wc.site k s hb with e | e
        · omega
        · exact e
      have d0 : decide (0 ≤ s.Rec) = true := decide_eq_true hr
      have hl2 : lenR c (.f k) = (slL rr).length := by rw [lenR_fk hb]; simp only [recL, hrr]
      (repeat simp -dsimp -implicitDefEqProofs (disch := omega) only [↓rP, rQ, rO, rL, ↓reduceIte, Nat.reduceEqDiff, Nat.reduceAdd, Nat.reduceLeDiff, pBuild, fillA, ↓tyr, d0, ↓lc1, c5, t5, ixI hrr, ld_one, ↓lds, lds, outA_ix (show k < (slL c.Sites).length by omega)])
      refine CallsA.go (kinds_does S1 wc bd ty (.f k) rr hl2 (fun j hj => by simp only [locR, hb, recL, hrr])) ?_
      (repeat simp -dsimp -implicitDefEqProofs (disch := omega) only [↓rP, rQ, rO, rL, ↓reduceIte, Nat.reduceEqDiff, Nat.reduceAdd, Nat.reduceLeDiff, pBuild, fillA, ↓tyr, wkS k (by omega)])
      rw [loopPost_normal, hI]
      exact ⟨_, by omega, k + 1, rfl, by omega, kp1, rfl⟩
    · have d0 : decide (0 ≤ s.Rec) = false := decide_eq_false hr
      (repeat simp -dsimp -implicitDefEqProofs (disch := omega) only [↓rP, rQ, rO, rL, ↓reduceIte, Nat.reduceEqDiff, Nat.reduceAdd, Nat.reduceLeDiff, pBuild, fillA, ↓tyr, d0, wkS k (by omega)])
      rw [loopPost_normal, hI]
      exact ⟨_, by omega, k + 1, rfl, by omega, kp1, rfl⟩
  · (repeat simp -dsimp -implicitDefEqProofs (disch := omega) only [↓rP, rQ, rO, rL, ↓reduceIte, Nat.reduceEqDiff, Nat.reduceAdd, Nat.reduceLeDiff, pBuild, fillA, ↓tyr])
    exact hQ hh kp
theorem PtsTyped_does (c : Cd) (hc : c.ok) (h : AHeap) : CallsA Tryd.prog 8 [.agg c.cells] h (fun v h2 => v = .bool true) := by
  have lc : ∀ (H : AHeap) (K : AV → Prop), pLoad (some 5) (.iptr c.cells) H K = K (.agg c.cells) := fun H K => by rw [pLoad_iptr]; exact Api_Code.call c K
  apply padlocklaw11_PtsTyped_wp
  (repeat simp -dsimp -implicitDefEqProofs (disch := omega) only [↓rP, rQ, rO, rL, ↓reduceIte, Nat.reduceEqDiff, Nat.reduceAdd, Nat.reduceLeDiff, pBuild, fillA, ↓tyr, ↓lc])
  refine CallsA.go (alive11_does _) ?_
  (repeat simp -dsimp -implicitDefEqProofs (disch := omega) only [↓rP, rQ, rO, rL, ↓reduceIte, Nat.reduceEqDiff, Nat.reduceAdd, Nat.reduceLeDiff, pBuild, fillA, ↓tyr, ↓lc])
  refine CallsA.go (ref_Great_does c hc _) ?_
  rcases hg : greatB c with _ | _
  · have sm := small_of hg
    (repeat simp -dsimp -implicitDefEqProofs (disch := omega) only [↓rP, rQ, rO, rL, ↓reduceIte, Nat.reduceEqDiff, Nat.reduceAdd, Nat.reduceLeDiff, pBuild, fillA, ↓tyr, ↓lc])
    refine CallsA.go (ref_Good_c c hc sm _) ?_
    cases hok : okC c with
    | false => (repeat simp -dsimp -implicitDefEqProofs (disch := omega) only [↓rP, rQ, rO, rL, ↓reduceIte, Nat.reduceEqDiff, Nat.reduceAdd, Nat.reduceLeDiff, pBuild, fillA, ↓tyr])
    | true =>
      have wc := wf_of hok
      (repeat simp -dsimp -implicitDefEqProofs (disch := omega) only [↓rP, rQ, rO, rL, ↓reduceIte, Nat.reduceEqDiff, Nat.reduceAdd, Nat.reduceLeDiff, pBuild, fillA, ↓tyr, ↓lc])
      refine (plain_does c wc _).mono ?_
      rintro _ H1 ⟨pb, rfl, hpb, k1⟩
      cases pb with
      | false => (repeat simp -dsimp -implicitDefEqProofs (disch := omega) only [↓rP, rQ, rO, rL, ↓reduceIte, Nat.reduceEqDiff, Nat.reduceAdd, Nat.reduceLeDiff, pBuild, fillA, ↓tyr])
      | true =>
        have pl := hpb rfl
        (repeat simp -dsimp -implicitDefEqProofs (disch := omega) only [↓rP, rQ, rO, rL, ↓reduceIte, Nat.reduceEqDiff, Nat.reduceAdd, Nat.reduceLeDiff, pBuild, fillA, ↓tyr, ↓lc])
        refine (Solve_does c hc sm _).mono ?_
        rintro v H (⟨e1, _⟩ | ⟨e1, σ, A, i1, i2, rfl, S1, -, a1, a2, a3, a4, k2⟩)
        · rw [hok] at e1; cases e1
        · have ty := least_ty hok pl a2
          (repeat simp -dsimp -implicitDefEqProofs (disch := omega) only [↓rP, rQ, rO, rL, ↓reduceIte, Nat.reduceEqDiff, Nat.reduceAdd, Nat.reduceLeDiff, pBuild, fillA, ↓tyr])
          rw [pStore_push (by rfl) (by rfl)]
          have S2 := S1.keep (Keeps.one H (.row 29 (setsC c A i1 i2))) (fun _ _ _ h => h)
          have oS : (H.push (.row 29 (setsC c A i1 i2))).objs H.next = some (.row 29 (setsC c A i1 i2)) := push_new _ _
          have nS : H.next < (H.push (.row 29 (setsC c A i1 i2))).next := Nat.lt_succ_self _
          generalize hG : H.push (.row 29 (setsC c A i1 i2)) = G at S2 oS nS ⊢
          have ld0 : ∀ K : AV → Prop, pLoad none (.ptr H.next 0) G K = K (outA i1 (slL c.Threads).length (fun t => A (.s t))) := fun K => by rw [pLoad_ptr oS]; exact setsC_0 c A i1 i2 K
          have ld1 : ∀ K : AV → Prop, pLoad none (.ptr H.next 1) G K = K (A .g) := fun K => by rw [pLoad_ptr oS]; exact setsC_1 c A i1 i2 K
          have ld2 : ∀ K : AV → Prop, pLoad none (.ptr H.next 2) G K = K (outA i2 (slL c.Sites).length (fun t => A (.f t))) := fun K => by rw [pLoad_ptr oS]; exact setsC_2 c A i1 i2 K
          have d1 : (((slL c.Threads).length : Int) != ((slL c.Threads).length : Int)) = false := by simp
          have d2 : (((lenR c .g : Nat) : Int) != ((slL c.Globals).length : Int)) = false := by simp [lenR]
          have d3 : (((slL c.Sites).length : Int) != ((slL c.Sites).length : Int)) = false := by simp
          (repeat simp -dsimp -implicitDefEqProofs (disch := omega) only [↓rP, rQ, rO, rL, ↓reduceIte, Nat.reduceEqDiff, Nat.reduceAdd, Nat.reduceLeDiff, pBuild, fillA, ↓tyr, ↓ld0, ↓ld1, ↓ld2, outA_len, S2.len, d1, d2, d3])
          refine typed_9 (h := G) wc S2 a3 ty oS nS _ ?_
          intro G2 k3
          (repeat simp -dsimp -implicitDefEqProofs (disch := omega) only [↓rP, rQ, rO, rL, ↓reduceIte, Nat.reduceEqDiff, Nat.reduceAdd, Nat.reduceLeDiff, pBuild, fillA, ↓tyr])
          have S3 := S2.keep k3 (fun _ _ _ h => h)
          have oS3 : G2.objs H.next = some (.row 29 (setsC c A i1 i2)) := by rw [k3.objs _ nS (fun h => h)]; exact oS
          refine typed_15 wc S3 a3 ty oS3 (Nat.lt_of_lt_of_le nS k3.next) _ ?_
          intro G4 k4
          have S4 := S3.keep k4 (fun _ _ _ h => h)
          have oS4 : G4.objs H.next = some (.row 29 (setsC c A i1 i2)) := by rw [k4.objs _ (Nat.lt_of_lt_of_le nS k3.next) (fun h => h)]; exact oS3
          have ld3 : ∀ K : AV → Prop, pLoad none (.ptr H.next 1) G4 K = K (A .g) := fun K => by rw [pLoad_ptr oS4]; exact setsC_1 c A i1 i2 K
          have lc4 : ∀ K : AV → Prop, pLoad (some 5) (.iptr c.cells) G4 K = K (.agg c.cells) := lc _
          have c5 : (Api_Code.cells c).length = 5 := rfl
          have t5 : List.take 5 (Api_Code.cells c) = Api_Code.cells c := rfl
          (repeat simp -dsimp -implicitDefEqProofs (disch := omega) only [↓rP, rQ, rO, rL, ↓reduceIte, Nat.reduceEqDiff, Nat.reduceAdd, Nat.reduceLeDiff, pBuild, fillA, ↓tyr, ↓ld3, ld3, c5, t5])
          refine CallsA.go (kinds_does S4 wc a3 ty .g c.Globals rfl (fun j hj => rfl)) ?_
          (repeat simp -dsimp -implicitDefEqProofs (disch := omega) only [↓rP, rQ, rO, rL, ↓reduceIte, Nat.reduceEqDiff, Nat.reduceAdd, Nat.reduceLeDiff, pBuild, fillA, ↓tyr])
  · (repeat simp -dsimp -implicitDefEqProofs (disch := omega) only [↓rP, rQ, rO, rL, ↓reduceIte, Nat.reduceEqDiff, Nat.reduceAdd, Nat.reduceLeDiff, pBuild, fillA, ↓tyr])
end Go.Proofs.YtopfjochppdnfaaDoor
end

