/- Sets out of rows; the class of a set; the sample at work. -/
import Derived.Test.YtopfjochppdnfaaDoorClRef4
set_option linter.unusedVariables false
set_option linter.unusedSimpArgs false
set_option maxRecDepth 100000
set_option maxHeartbeats 1000000
namespace Go.Proofs.YtopfjochppdnfaaDoor
open Go.Abs

abbrev Rws := List (Option (List Nat))
def encR (o : Option (List Nat)) : List AV := [slAV 1 encN o]
def pickAt (p : Nat → Bool) : Nat → Rws → Rws
  | _, [] => []
  | i, x :: l => if p i then x :: pickAt p (i + 1) l else pickAt p (i + 1) l
theorem pickAt_snoc (p : Nat → Bool) : ∀ (l : Rws) (i : Nat) (x : Option (List Nat)), pickAt p i (l ++ [x]) = pickAt p i l ++ if p (i + l.length) then [x] else []
  | [], i, x => by simp only [List.nil_append, pickAt, List.length_nil, Nat.add_zero]
  | y :: l, i, x => by
    simp only [List.cons_append, pickAt, pickAt_snoc p l (i + 1) x, List.length_cons]
    rw [show i + 1 + l.length = i + (l.length + 1) by omega]
    split <;> simp
theorem pickAt_len (p : Nat → Bool) : ∀ (l : Rws) (i : Nat), (pickAt p i l).length ≤ l.length
  | [], _ => by simp [pickAt]
  | x :: l, i => by
    simp only [pickAt]
    have := pickAt_len p l (i + 1)
    split <;> simp <;> omega
def isOdd (i : Nat) : Bool := decide (i % 2 = 1)
def isEv (i : Nat) : Bool := decide (i % 2 = 0) && decide (i ≠ 0)
def toO (l : Rws) : Option Rws := match l with | [] => none | l => some l
theorem toO_L (l : Rws) : slL (toO l) = l := by cases l <;> rfl
/-- Rows as sets: the first one is the globals', then slots and fields by turns. -/
def setsS (l : Rws) : St := ⟨toO (pickAt isOdd 0 l), (l.head?).getD none, toO (pickAt isEv 0 l)⟩

theorem mem_pick (p : Nat → Bool) : ∀ (l : Rws) (i : Nat) (o : Option (List Nat)), o ∈ pickAt p i l ↔ ∃ j, l[j]? = some o ∧ p (i + j) = true
  | [], _, _ => by simp [pickAt]
  | x :: l, i, o => by
    simp only [pickAt]
    have ih := mem_pick p l (i + 1) o
    constructor
    · intro h
      have h' : (p i = true ∧ o = x) ∨ o ∈ pickAt p (i + 1) l := by
        split at h
        · rcases List.mem_cons.1 h with h | h
          · exact Or.inl ⟨by assumption, h⟩
          · exact Or.inr h
        · exact Or.inr h
      rcases h' with ⟨hp, rfl⟩ | h'
      · exact ⟨0, rfl, hp⟩
      · obtain ⟨j, h1, h2⟩ := ih.1 h'
        exact ⟨j + 1, by simpa using h1, by rw [show i + (j + 1) = i + 1 + j by omega]; exact h2⟩
    · rintro ⟨j, h1, h2⟩
      cases j with
      | zero =>
        simp at h1; subst h1
        rw [if_pos (by simpa using h2)]
        simp
      | succ j =>
        have := ih.2 ⟨j, by simpa using h1, by rw [show i + 1 + j = i + (j + 1) by omega]; exact h2⟩
        split
        · exact List.mem_cons_of_mem _ this
        · exact this
theorem mem_rows (l : Rws) (o : Option (List Nat)) (ho : slL o ≠ []) : o ∈ rowsOf (setsS l) ↔ o ∈ l := by
  unfold rowsOf setsS
  simp only [toO_L, List.mem_cons, List.mem_append, mem_pick, Nat.zero_add]
  constructor
  · rintro (h | ⟨j, h, _⟩ | ⟨j, h, _⟩)
    · cases l with
      | nil => simp at h; rw [h] at ho; exact absurd rfl ho
      | cons a l => simp at h; rw [h]; simp
    · exact List.mem_of_getElem? h
    · exact List.mem_of_getElem? h
  · intro h
    obtain ⟨j, hj⟩ := List.getElem?_of_mem h
    by_cases h0 : j = 0
    · subst h0
      left
      cases l with
      | nil => simp at hj
      | cons a l => simp at hj ⊢; exact hj.symm
    · by_cases h1 : j % 2 = 1
      · exact Or.inr (Or.inl ⟨j, hj, by simp [isOdd, h1]⟩)
      · exact Or.inr (Or.inr ⟨j, hj, by simp [isEv, h0]; omega⟩)
theorem mem_setsOf (l : Rws) (x : Nat) : x ∈ setsOf (setsS l) ↔ x ∈ setsIn l := by
  simp only [setsOf, setsIn, List.mem_flatMap]
  constructor
  · rintro ⟨o, h1, h2⟩
    have hne : slL o ≠ [] := fun e => by rw [e] at h2; cases h2
    exact ⟨o, (mem_rows l o hne).1 h1, h2⟩
  · rintro ⟨o, h1, h2⟩
    have hne : slL o ≠ [] := fun e => by rw [e] at h2; cases h2
    exact ⟨o, (mem_rows l o hne).2 h1, h2⟩
theorem meet_congr {S T : List Nat} (h : ∀ x, x ∈ S ↔ x ∈ T) (a b : Nat) : MeetP S a b ↔ MeetP T a b :=
  ⟨fun ⟨x, h1, h2⟩ => ⟨x, (h x).1 h1, h2⟩, fun ⟨x, h1, h2⟩ => ⟨x, (h x).2 h1, h2⟩⟩

theorem agg_sub {xs ys : List AV} (hs : Sub xs ys) (c : Go.Abs.Ctx) (w : World) (v : Value) (h : VRel c w (.agg xs) v) : VRel c w (.agg ys) v := by
  simp only [VRel] at h ⊢
  obtain ⟨vs, h1, h2, h3⟩ := h
  exact ⟨vs, h1, hs c w _ h2, h3⟩

/-- A growing row of rows. -/
def GV (lo : Nat) (hh : AHeap) (gv : AV) (l : Rws) : Prop := (l = [] ∧ gv = .nils) ∨ (l ≠ [] ∧ ∃ id, gv = .gsl id 1 (l.map encR) ∧ hh.objs id = some (.tok 27 l.length) ∧ lo ≤ id ∧ id < hh.next)
theorem app_gv {lo : Nat} {hh : AHeap} {gv : AV} {l : Rws} (hl : l.length ≤ 1000) (hg : GV lo hh gv l) (o : Option (List Nat)) (K : AV → AHeap → Prop)
    (hK : ∀ hh2, hh2.objs hh.next = some (.tok 27 (l ++ [o]).length) → hh2.next = hh.next + 1 → (∀ j, j < hh.next → (∀ es, gv ≠ .gsl j 1 es) → hh2.objs j = hh.objs j) → K (.gsl hh.next 1 ((l ++ [o]).map encR)) hh2) :
    pAppend true { e := 27, sz := 1, by_ := 24 } gv (.isl 1 [encR o]) hh K := by
  rcases hg with ⟨rfl, rfl⟩ | ⟨hne, id, rfl, ho, h1, h2⟩
  · have := hK (hh.push (.tok 27 1)) (push_new _ _) rfl (fun j hj _ => push_old hj _)
    simp [pAppend, srcElems, newSl, bounded, maxLen, encR]
    simpa [encR] using this
  · have := hK ((hh.kill id).push (.tok 27 (l ++ [o]).length)) (push_new _ _) rfl (fun j hj hne2 => by
      rw [push_old (by simpa using hj), kill_old (fun e => hne2 _ (by rw [e]))])
    simp only [pAppend, srcElems, ho]
    simp only [List.map_append, List.map_cons, List.map_nil, List.length_append, List.length_cons, List.length_nil, List.length_map, Nat.mul_one] at this ⊢
    refine ⟨trivial, trivial, trivial, by simp [bounded, maxLen]; omega, this⟩
theorem GV.sub {lo : Nat} {hh : AHeap} {gv : AV} {l : Rws} (hl : l.length ≤ 1000) (hg : GV lo hh gv l) (c : Go.Abs.Ctx) (w : World) (v : Value) (h : VRel c w gv v) : VRel c w (slAV 1 (fun o => [slAV 1 encN o]) (toO l)) v := by
  rcases hg with ⟨rfl, rfl⟩ | ⟨hne, id, rfl, -, -, -⟩
  · exact h
  · have : slAV 1 (fun o => [slAV 1 encN o]) (toO l) = .isl 1 (l.map encR) := by
      cases l with
      | nil => exact absurd rfl hne
      | cons a l => rfl
    rw [this]
    exact gsl_isl _ _ _ (by simp; omega) c w v h

theorem of_does (x : Nat) (hx : x < 18446744073709551616) {id : Nat} {out : List Nat} (hl : out.length ≤ 1000) {h : AHeap} (ho : h.objs id = some (.row 3 (nsAV out))) : CallsA Tryd.prog 17 [.int .u64 (x : Nat), .sl id 0 out.length 1] h (fun v h2 => v = .int .i64 (out.getD (firstB x) 0 : Nat) ∧ h2 = h) := by
  apply class_Of_wp
  (repeat (first | simp -dsimp -implicitDefEqProofs (disch := omega) only [↓gp0, ↓gp1, ↓gp2, gq0, gq1, gq2, gq3, gq4, gq5, gq6, gq7, gq8, gq9, go0, go1, gl0, gl1, gl2, gl3, ↓reduceIte, Nat.reduceEqDiff, Nat.reduceAdd, Nat.reduceLeDiff, pBuild, fillA, ↓Api_Sets.r] | refine Cut.go ?_))
  refine CallsA.go (tz_does x hx _) ?_
  have hf : firstB x ≤ 64 := by
    by_cases h0 : x = 0
    · subst h0; rw [firstB_zero]; exact Nat.le_refl _
    · exact Nat.le_of_lt (firstB_low h0 hx).1
  (repeat (first | simp -dsimp -implicitDefEqProofs (disch := omega) only [↓gp0, ↓gp1, ↓gp2, gq0, gq1, gq2, gq3, gq4, gq5, gq6, gq7, gq8, gq9, go0, go1, gl0, gl1, gl2, gl3, ↓reduceIte, Nat.reduceEqDiff, Nat.reduceAdd, Nat.reduceLeDiff, pBuild, fillA, ↓Api_Sets.r] | refine Cut.go ?_))
  refine Split_lt (fun hlt => ?_) (fun hlt => ?_)
  · have hlt2 : firstB x < out.length := by omega
    have hget : out[firstB x]? = some (out.getD (firstB x) 0) := by
      rw [List.getD_eq_getElem?_getD, List.getElem?_eq_getElem hlt2]; rfl
    (repeat (first | simp -dsimp -implicitDefEqProofs (disch := omega) only [↓gp0, ↓gp1, ↓gp2, gq0, gq1, gq2, gq3, gq4, gq5, gq6, gq7, gq8, gq9, go0, go1, gl0, gl1, gl2, gl3, ↓reduceIte, Nat.reduceEqDiff, Nat.reduceAdd, Nat.reduceLeDiff, pBuild, fillA, ↓Api_Sets.r, ix_ns hlt2, ld_ns ho hget] | refine Cut.go ?_))
  · (repeat (first | simp -dsimp -implicitDefEqProofs (disch := omega) only [↓gp0, ↓gp1, ↓gp2, gq0, gq1, gq2, gq3, gq4, gq5, gq6, gq7, gq8, gq9, go0, go1, gl0, gl1, gl2, gl3, ↓reduceIte, Nat.reduceEqDiff, Nat.reduceAdd, Nat.reduceLeDiff, pBuild, fillA, ↓Api_Sets.r] | refine Cut.go ?_))
    rw [List.getD_eq_getElem?_getD, List.getElem?_eq_none (by omega)]; rfl

theorem sets_does (rows : Option Rws) (hl : (slL rows).length ≤ 1000) (h : AHeap) : CallsA Tryd.prog 14 [slAV 1 (fun o => [slAV 1 encN o]) rows] h (fun v h2 => ∃ cs, v = .agg cs ∧ cs.length = 3 ∧ (AV.agg cs).fits = true ∧ (∀ x ∈ cs, x.leafy = true) ∧ Sub cs (setsS (slL rows)).cells ∧ Keeps h h2 (fun _ => False)) := by
  apply padlocklaw12_sets_wp
  (repeat (first | simp -dsimp -implicitDefEqProofs (disch := omega) only [↓gp0, ↓gp1, ↓gp2, gq0, gq1, gq2, gq3, gq4, gq5, gq6, gq7, gq8, gq9, go0, go1, gl0, gl1, gl2, gl3, ↓reduceIte, Nat.reduceEqDiff, Nat.reduceAdd, Nat.reduceLeDiff, pBuild, fillA, ↓Api_Sets.r] | refine Cut.go ?_))
  have ps : ∀ (K : AHeap → Prop), pStore 3 (.ptr (h.push (.row 29 [AV.nils, AV.nils, AV.nils])).next 0) (.agg [AV.nils, AV.nils, AV.nils]) ((h.push (.row 29 [AV.nils, AV.nils, AV.nils])).push (.row 29 [AV.nils, AV.nils, AV.nils])) K = K ((h.push (.row 29 [AV.nils, AV.nils, AV.nils])).push (.row 29 [AV.nils, AV.nils, AV.nils])) := fun K => pStore_push (by rfl) (by rfl) K
  refine Eq.mpr (ps _) ?_
  (repeat (first | simp -dsimp -implicitDefEqProofs (disch := omega) only [↓gp0, ↓gp1, ↓gp2, gq0, gq1, gq2, gq3, gq4, gq5, gq6, gq7, gq8, gq9, go0, go1, gl0, gl1, gl2, gl3, ↓reduceIte, Nat.reduceEqDiff, Nat.reduceAdd, Nat.reduceLeDiff, pBuild, fillA, ↓Api_Sets.r] | refine Cut.go ?_))
  obtain ⟨L, hL⟩ : ∃ L, L = slL rows := ⟨_, rfl⟩
  rw [← hL] at hl ⊢
  have e1 : (h.push (.row 29 [AV.nils, AV.nils, AV.nils])).next = h.next + 1 := rfl
  rw [e1]
  obtain ⟨H, hH⟩ : ∃ H : AHeap, H = (h.push (.row 29 [AV.nils, AV.nils, AV.nils])).push (.row 29 [AV.nils, AV.nils, AV.nils]) := ⟨_, rfl⟩
  rw [← hH]
  have hHn : H.next = h.next + 2 := by rw [hH]; rfl
  obtain ⟨I, hI⟩ : ∃ I : Nat → Fr → AHeap → Prop, I = (fun r fr hh => ∃ (i : Nat) (gs gf : AV), r = L.length - i ∧ i ≤ L.length ∧ hh.objs h.next = some (.row 29 [AV.nils, AV.nils, AV.nils]) ∧ hh.objs (h.next + 1) = some (.row 29 [gs, slAV 1 encN ((L.take i).head?.getD none), gf]) ∧ GV (h.next + 2) hh gs (pickAt isOdd 0 (L.take i)) ∧ GV (h.next + 2) hh gf (pickAt isEv 0 (L.take i)) ∧ (∀ a es es', ¬ (gs = .gsl a 1 es ∧ gf = .gsl a 1 es')) ∧ Keeps h hh (fun _ => False) ∧ h.next + 2 ≤ hh.next ∧ fr = frOf [(2, .ptr h.next 0), (3, .ptr (h.next + 1) 0), (7, slAV 1 (fun o => [slAV 1 encN o]) rows), (8, .int .i64 L.length), (9, .int .i64 i)]) := ⟨_, rfl⟩
  refine WP_loop mixed_ (by kernel_rfl) I L.length (by
    rw [hI]
    refine ⟨0, .nils, .nils, rfl, Nat.zero_le _, ?_, ?_, Or.inl ⟨by simp [pickAt], rfl⟩, Or.inl ⟨by simp [pickAt], rfl⟩, by simp, by rw [hH]; exact (Keeps.one _ _).go (Keeps.one _ _), by omega, by rw [hL]; rfl⟩
    · rw [hH, push_old (by simp), push_new]
    · rw [hH, ← e1, push_new]; simp [slAV]) ?_
  intro r fr hh hi
  rw [hI] at hi
  obtain ⟨i, gs, gf, rfl, hi, q1, q2, q3, q4, q5, q6, q7, rfl⟩ := hi
  apply padlocklaw12_sets_loop3
  (repeat (first | simp -dsimp -implicitDefEqProofs (disch := omega) only [↓gp0, ↓gp1, ↓gp2, gq0, gq1, gq2, gq3, gq4, gq5, gq6, gq7, gq8, gq9, go0, go1, gl0, gl1, gl2, gl3, ↓reduceIte, Nat.reduceEqDiff, Nat.reduceAdd, Nat.reduceLeDiff, pBuild, fillA, ↓Api_Sets.r] | refine Cut.go ?_))
  refine Split_lt (fun hil => ?_) (fun hil => ?_)
  · obtain ⟨o, hxo⟩ : ∃ o, L[i]? = some o := ⟨_, List.getElem?_eq_getElem (by omega)⟩
    have hxo' : (slL rows)[i]? = some o := by rw [← hL]; exact hxo
    have ld : ∀ (H : AHeap) (K : AV → Prop), pLoad none (.iptr [slAV 1 encN o]) H K = K (slAV 1 encN o) := fun H K => by rw [pLoad_iptr]; simp [pCells]
    have htake : L.take (i + 1) = L.take i ++ [o] := by rw [List.take_add_one, hxo]; rfl
    have htl : (L.take i).length = i := by simp; omega
    have eb : (((i : Nat) : Int) == 0) = decide (i = 0) := by rw [Bool.eq_iff_iff]; simp
    (repeat (first | simp -dsimp -implicitDefEqProofs (disch := omega) only [↓gp0, ↓gp1, ↓gp2, gq0, gq1, gq2, gq3, gq4, gq5, gq6, gq7, gq8, gq9, go0, go1, gl0, gl1, gl2, gl3, ↓reduceIte, Nat.reduceEqDiff, Nat.reduceAdd, Nat.reduceLeDiff, pBuild, fillA, ↓Api_Sets.r, pIndexAddr_slAV hxo', ld, eb] | refine Cut.go ?_))
    by_cases h0 : i = 0
    · rw [decide_eq_true h0]
      have st : ∀ (K : AHeap → Prop), pStore 1 (.ptr (h.next + 1) 1) (slAV 1 encN o) hh K = K (hh.put (h.next + 1) (.row 29 [gs, slAV 1 encN o, gf])) := fun K => by
        rw [pStore_ptr q2 (slAV_leafy _) (by simp)]; rfl
      (repeat (first | simp -dsimp -implicitDefEqProofs (disch := omega) only [↓gp0, ↓gp1, ↓gp2, gq0, gq1, gq2, gq3, gq4, gq5, gq6, gq7, gq8, gq9, go0, go1, gl0, gl1, gl2, gl3, ↓reduceIte, Nat.reduceEqDiff, Nat.reduceAdd, Nat.reduceLeDiff, pBuild, fillA, ↓Api_Sets.r, st, wk1 i (by omega)] | refine Cut.go ?_))
      rw [loopPost_normal, hI]
      subst h0
      have hodd : pickAt isOdd 0 (L.take (0 + 1)) = pickAt isOdd 0 (L.take 0) := by rw [htake, pickAt_snoc]; simp [isOdd]
      have hev : pickAt isEv 0 (L.take (0 + 1)) = pickAt isEv 0 (L.take 0) := by rw [htake, pickAt_snoc]; simp [isEv]
      refine ⟨L.length - (0 + 1), by omega, 0 + 1, gs, gf, rfl, by omega, by rw [put_old (by omega)]; exact q1, ?_, ?_, ?_, q5, q6.putNew (by omega) _, q7, rfl⟩
      · rw [put_new, htake]; simp
      · rw [hodd]
        rcases q3 with q3 | ⟨a, b, c, d, e, f⟩
        · exact Or.inl q3
        · exact Or.inr ⟨a, b, c, by rw [put_old (by omega)]; exact d, e, f⟩
      · rw [hev]
        rcases q4 with q4 | ⟨a, b, c, d, e, f⟩
        · exact Or.inl q4
        · exact Or.inr ⟨a, b, c, by rw [put_old (by omega)]; exact d, e, f⟩
    rw [decide_eq_false h0]
    have er : binA CmpK.other BinOp.rem (.int .i64 (i : Int)) (.int .i64 2) = some (.int .i64 ((i % 2 : Nat) : Int)) := by
      rw [binA_int_rem, if_neg (by decide)]
      rfl
    have e2 : (((i % 2 : Nat) : Int) == 0) = decide (i % 2 = 0) := by rw [Bool.eq_iff_iff]; simp; omega
    have hhead : (L.take (i + 1)).head? = (L.take i).head? := by
      rw [htake]
      cases hc : L.take i with
      | nil => rw [hc] at htl; simp at htl; omega
      | cons x l => rfl
    have hpl : ∀ p, (pickAt p 0 (L.take i)).length ≤ 1000 := fun p => Nat.le_trans (pickAt_len p _ 0) (by omega)
    by_cases hev : i % 2 = 0
    · have lf : ∀ (K : AV → Prop), pLoad none (.ptr (h.next + 1) 2) hh K = K gf := fun K => by rw [pLoad_ptr q2]; simp [pCells]
      (repeat (first | simp -dsimp -implicitDefEqProofs (disch := omega) only [↓gp0, ↓gp1, ↓gp2, gq0, gq1, gq2, gq3, gq4, gq5, gq6, gq7, gq8, gq9, go0, go1, gl0, gl1, gl2, gl3, ↓reduceIte, Nat.reduceEqDiff, Nat.reduceAdd, Nat.reduceLeDiff, pBuild, fillA, ↓Api_Sets.r, er, e2, decide_eq_true hev, ↓lf] | refine Cut.go ?_))
      rw [bslI (slAV_leafy _)]
      (repeat (first | simp -dsimp -implicitDefEqProofs (disch := omega) only [↓gp0, ↓gp1, ↓gp2, gq0, gq1, gq2, gq3, gq4, gq5, gq6, gq7, gq8, gq9, go0, go1, gl0, gl1, gl2, gl3, ↓reduceIte, Nat.reduceEqDiff, Nat.reduceAdd, Nat.reduceLeDiff, pBuild, fillA, ↓Api_Sets.r] | refine Cut.go ?_))
      refine app_gv (hpl _) q4 o _ (fun hh2 r1 r2 r3 => ?_)
      have hold : ∀ j, j < h.next + 2 → hh2.objs j = hh.objs j := fun j hj => r3 j (by omega) (fun es e => by
        rcases q4 with ⟨-, rfl⟩ | ⟨-, id, rfl, -, h1, -⟩
        · cases e
        · injection e with e1 e2; omega)
      have q2' : hh2.objs (h.next + 1) = some (.row 29 [gs, slAV 1 encN ((L.take i).head?.getD none), gf]) := by rw [hold _ (by omega)]; exact q2
      have st : ∀ (es : List (List AV)) (K : AHeap → Prop), pStore 1 (.ptr (h.next + 1) 2) (.gsl hh.next 1 es) hh2 K = K (hh2.put (h.next + 1) (.row 29 [gs, slAV 1 encN ((L.take i).head?.getD none), .gsl hh.next 1 es])) := fun es K => by
        rw [pStore_ptr q2' (by rfl) (by simp)]; rfl
      (repeat (first | simp -dsimp -implicitDefEqProofs (disch := omega) only [↓gp0, ↓gp1, ↓gp2, gq0, gq1, gq2, gq3, gq4, gq5, gq6, gq7, gq8, gq9, go0, go1, gl0, gl1, gl2, gl3, ↓reduceIte, Nat.reduceEqDiff, Nat.reduceAdd, Nat.reduceLeDiff, pBuild, fillA, ↓Api_Sets.r, ↓st, wk1 i (by omega)] | refine Cut.go ?_))
      rw [loopPost_normal, hI]
      have podd : pickAt isOdd 0 (L.take (i + 1)) = pickAt isOdd 0 (L.take i) := by rw [htake, pickAt_snoc, htl]; simp [isOdd, hev]
      have pev : pickAt isEv 0 (L.take (i + 1)) = pickAt isEv 0 (L.take i) ++ [o] := by rw [htake, pickAt_snoc, htl]; simp [isEv, hev, h0]
      refine ⟨L.length - (i + 1), by omega, i + 1, gs, _, rfl, by omega, by rw [put_old (by omega), hold _ (by omega)]; exact q1, by rw [put_new, hhead], ?_, ?_, ?_, ?_, ?_, rfl⟩
      · rw [podd]
        rcases q3 with q3 | ⟨a, b, c, d, e, f⟩
        · exact Or.inl q3
        · refine Or.inr ⟨a, b, c, ?_, e, by simp; omega⟩
          rw [put_old (by omega), r3 b f (fun es he => q5 b _ es ⟨c, he⟩)]; exact d
      · rw [pev]
        exact Or.inr ⟨by simp, hh.next, rfl, by rw [put_old (by omega)]; exact r1, q7, by simp; omega⟩
      · rintro a es es' ⟨c, e⟩
        injection e with e3 e4
        rcases q3 with ⟨-, q3⟩ | ⟨-, b, c2, -, -, f⟩
        · rw [q3] at c; cases c
        · rw [c2] at c; injection c with c3; omega
      · exact ⟨by simp; have := q6.next; omega, fun j hj _ => by rw [put_old (by omega), hold j (by omega)]; exact q6.objs j hj (by simp)⟩
      · simp; omega
    · have lf : ∀ (K : AV → Prop), pLoad none (.ptr (h.next + 1) 0) hh K = K gs := fun K => by rw [pLoad_ptr q2]; simp [pCells]
      (repeat (first | simp -dsimp -implicitDefEqProofs (disch := omega) only [↓gp0, ↓gp1, ↓gp2, gq0, gq1, gq2, gq3, gq4, gq5, gq6, gq7, gq8, gq9, go0, go1, gl0, gl1, gl2, gl3, ↓reduceIte, Nat.reduceEqDiff, Nat.reduceAdd, Nat.reduceLeDiff, pBuild, fillA, ↓Api_Sets.r, er, e2, decide_eq_false hev, ↓lf] | refine Cut.go ?_))
      rw [bslI (slAV_leafy _)]
      (repeat (first | simp -dsimp -implicitDefEqProofs (disch := omega) only [↓gp0, ↓gp1, ↓gp2, gq0, gq1, gq2, gq3, gq4, gq5, gq6, gq7, gq8, gq9, go0, go1, gl0, gl1, gl2, gl3, ↓reduceIte, Nat.reduceEqDiff, Nat.reduceAdd, Nat.reduceLeDiff, pBuild, fillA, ↓Api_Sets.r] | refine Cut.go ?_))
      refine app_gv (hpl _) q3 o _ (fun hh2 r1 r2 r3 => ?_)
      have hold : ∀ j, j < h.next + 2 → hh2.objs j = hh.objs j := fun j hj => r3 j (by omega) (fun es e => by
        rcases q3 with ⟨-, rfl⟩ | ⟨-, id, rfl, -, h1, -⟩
        · cases e
        · injection e with e1 e2; omega)
      have q2' : hh2.objs (h.next + 1) = some (.row 29 [gs, slAV 1 encN ((L.take i).head?.getD none), gf]) := by rw [hold _ (by omega)]; exact q2
      have st : ∀ (es : List (List AV)) (K : AHeap → Prop), pStore 1 (.ptr (h.next + 1) 0) (.gsl hh.next 1 es) hh2 K = K (hh2.put (h.next + 1) (.row 29 [.gsl hh.next 1 es, slAV 1 encN ((L.take i).head?.getD none), gf])) := fun es K => by
        rw [pStore_ptr q2' (by rfl) (by simp)]; rfl
      (repeat (first | simp -dsimp -implicitDefEqProofs (disch := omega) only [↓gp0, ↓gp1, ↓gp2, gq0, gq1, gq2, gq3, gq4, gq5, gq6, gq7, gq8, gq9, go0, go1, gl0, gl1, gl2, gl3, ↓reduceIte, Nat.reduceEqDiff, Nat.reduceAdd, Nat.reduceLeDiff, pBuild, fillA, ↓Api_Sets.r, ↓st, wk1 i (by omega)] | refine Cut.go ?_))
      rw [loopPost_normal, hI]
      have podd : pickAt isOdd 0 (L.take (i + 1)) = pickAt isOdd 0 (L.take i) ++ [o] := by rw [htake, pickAt_snoc, htl]; simp [isOdd]; omega
      have pev : pickAt isEv 0 (L.take (i + 1)) = pickAt isEv 0 (L.take i) := by rw [htake, pickAt_snoc, htl]; simp [isEv, hev]
      refine ⟨L.length - (i + 1), by omega, i + 1, _, gf, rfl, by omega, by rw [put_old (by omega), hold _ (by omega)]; exact q1, by rw [put_new, hhead], ?_, ?_, ?_, ?_, ?_, rfl⟩
      · rw [podd]
        exact Or.inr ⟨by simp, hh.next, rfl, by rw [put_old (by omega)]; exact r1, q7, by simp; omega⟩
      · rw [pev]
        rcases q4 with q4 | ⟨a, b, c, d, e, f⟩
        · exact Or.inl q4
        · refine Or.inr ⟨a, b, c, ?_, e, by simp; omega⟩
          rw [put_old (by omega), r3 b f (fun es he => q5 b es _ ⟨he, c⟩)]; exact d
      · rintro a es es' ⟨c, e⟩
        injection c with e3 e4
        rcases q4 with ⟨-, q4⟩ | ⟨-, b, c2, -, -, f⟩
        · rw [q4] at e; cases e
        · rw [c2] at e; injection e with c3; omega
      · exact ⟨by simp; have := q6.next; omega, fun j hj _ => by rw [put_old (by omega), hold j (by omega)]; exact q6.objs j hj (by simp)⟩
      · simp; omega
  · have e : i = L.length := by omega
    subst e
    rw [List.take_length] at q2 q3 q4
    have l1 : ∀ (K : AV → Prop), pLoad (some 3) (.ptr (h.next + 1) 0) hh K = K (.agg [gs, slAV 1 encN (L.head?.getD none), gf]) := fun K => by rw [pLoad_ptr q2]; simp [pCells]
    have lfs : ∀ {gv : AV} {l : Rws}, GV (h.next + 2) hh gv l → gv.leafy = true := fun hg => by
      rcases hg with ⟨-, rfl⟩ | ⟨-, _, rfl, -, -, -⟩ <;> rfl
    have st : ∀ (K : AHeap → Prop), pStore 3 (.ptr h.next 0) (.agg [gs, slAV 1 encN (L.head?.getD none), gf]) hh K = K (hh.put h.next (.row 29 [gs, slAV 1 encN (L.head?.getD none), gf])) := fun K => by
      simp [pStore, q1, AV.cells, AV.fits]
    have l2 : ∀ (K : AV → Prop), pLoad (some 3) (.ptr h.next 0) (hh.put h.next (.row 29 [gs, slAV 1 encN (L.head?.getD none), gf])) K = K (.agg [gs, slAV 1 encN (L.head?.getD none), gf]) := fun K => by rw [pLoad_ptr (put_new _ _ _)]; simp [pCells]
    (repeat (first | simp -dsimp -implicitDefEqProofs (disch := omega) only [↓gp0, ↓gp1, ↓gp2, gq0, gq1, gq2, gq3, gq4, gq5, gq6, gq7, gq8, gq9, go0, go1, gl0, gl1, gl2, gl3, ↓reduceIte, Nat.reduceEqDiff, Nat.reduceAdd, Nat.reduceLeDiff, pBuild, fillA, ↓Api_Sets.r, ↓l1, ↓st, ↓l2] | refine Cut.go ?_))
    have hpl : ∀ p, (pickAt p 0 L).length ≤ 1000 := fun p => Nat.le_trans (pickAt_len p _ 0) (by omega)
    refine ⟨_, rfl, rfl, ?_, ?_, q6.putNew (Nat.le_refl _) _⟩
    · intro x hx
      simp at hx
      rcases hx with rfl | rfl | rfl
      · exact lfs q3
      · exact slAV_leafy _
      · exact lfs q4
    · exact Sub.cons (fun c w v hv => q3.sub (hpl _) c w v hv) (Sub.same (Sub.cons (fun c w v hv => q4.sub (hpl _) c w v hv) Sub.nil))
end Go.Proofs.YtopfjochppdnfaaDoor
