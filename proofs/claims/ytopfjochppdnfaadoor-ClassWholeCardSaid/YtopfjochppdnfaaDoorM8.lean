/- Own texts, merged: PtSpec, CdUses, VcC, ClProg, PtHeap, PtEach, PtLoad, PtStep, PtStepB, PtBuild, PtSolve, PtSolveB, PtSolveC, PtSolveD, AbsFrz, AbsRes, PtVal, PtAlive, ClProg2, ClProg3, ClSam. -/
import Derived.Test.YtopfjochppdnfaaDoorM7
set_option linter.unusedVariables false
set_option linter.unusedSimpArgs false
section
/- What names may mean: what each instruction brings, and the least sets, plainly. -/
set_option maxRecDepth 8000
set_option maxHeartbeats 1000000
namespace Go.Proofs.YtopfjochppdnfaaDoor
open Go.Abs
inductive Rw where
  | g
  | s (t : Nat)
  | f (k : Nat)
  deriving DecidableEq
abbrev Sg := Rw → Nat → Nat
def Le (σ τ : Sg) : Prop := ∀ r n i, (σ r n).testBit i = true → (τ r n).testBit i = true
theorem Le.refl (σ : Sg) : Le σ σ := fun _ _ _ h => h
theorem Le.trans {σ τ ρ : Sg} (h : Le σ τ) (k : Le τ ρ) : Le σ ρ := fun r n i x => k r n i (h r n i x)
theorem Le.anti {σ τ : Sg} (h : Le σ τ) (k : Le τ σ) : σ = τ := by
  funext r n
  apply Nat.eq_of_testBit_eq
  intro i
  rw [Bool.eq_iff_iff]
  exact ⟨h r n i, k r n i⟩
def orF {α : Type} (f : α → Nat) (l : List α) : Nat := l.foldl (fun o k => o ||| f k) 0
theorem orF_snoc {α : Type} (f : α → Nat) (l : List α) (x : α) : orF f (l ++ [x]) = orF f l ||| f x := by simp [orF]
theorem orF_from {α : Type} (f : α → Nat) (l : List α) : ∀ a, l.foldl (fun o k => o ||| f k) a = a ||| orF f l := by
  induction l with
  | nil => intro a; simp [orF]
  | cons x l ih => intro a; simp only [orF, List.foldl_cons]; rw [ih, ih (0 ||| f x)]; simp [Nat.or_assoc]
theorem orF_cons {α : Type} (f : α → Nat) (x : α) (l : List α) : orF f (x :: l) = f x ||| orF f l := by
  rw [orF, List.foldl_cons, orF_from]; simp
theorem orF_bit {α : Type} (f : α → Nat) (l : List α) (i : Nat) : (orF f l).testBit i = true ↔ ∃ x ∈ l, (f x).testBit i = true := by
  induction l with
  | nil => simp [orF]
  | cons x l ih => rw [orF_cons, Nat.testBit_or, Bool.or_eq_true, ih]; simp
def recL (c : Cd) (n : Int) : List Lo := match getI (slL c.Records) n with | some r => slL r | none => []
def slotsL (c : Cd) (t : Nat) : List Lo := match (slL c.Threads)[t]? with | some b => slL b.Slots | none => []
def lenR (c : Cd) : Rw → Nat
  | .g => (slL c.Globals).length
  | .s t => (slotsL c t).length
  | .f k => match (slL c.Sites)[k]? with | some x => (recL c x.Rec).length | none => 0
def meansB (l : Lo) : Bool := decide (l.Kind = 4) || decide (l.Kind = 3)
def meansO : Option Lo → Bool | some l => meansB l | none => false
def itemsN (σ : Sg) (t : Nat) (l : List It) : Nat := orF (fun x => if x.Op = 2 then σ (.s t) x.N else 0) l
def fieldsN (c : Cd) (σ : Sg) (t : Nat) (x : In) : Nat := orF (fun k => if x.N < lenR c (.f k) then σ (.f k) x.N.toNat else 0) (bitsOf (σ (.s t) x.Src.toNat))
def bringsN (c : Cd) (σ : Sg) (t : Nat) (x : In) : Nat :=
  if x.Op = 1 then itemsN σ t (slL x.Items)
  else if x.Op = 2 then σ .g x.N.toNat
  else if x.Op = 8 ∨ x.Op = 9 then 2 ^ x.N.toNat
  else if x.Op = 3 then fieldsN c σ t x
  else 0
def dstB (c : Cd) (t : Nat) (x : In) : Bool := (decide (x.Op = 1) || decide (x.Op = 2) || decide (x.Op = 3) || decide (x.Op = 8) || decide (x.Op = 9)) && meansO (getI (slotsL c t) x.Dst)
def siteRec (c : Cd) (k : Nat) (n : Int) : Bool := match (slL c.Sites)[k]? with | some s => decide (s.Rec = n) | none => false
def toF (c : Cd) (t : Nat) (x : In) (σ : Sg) : Rw → Bool
  | .f k => (σ (.s t) x.Src.toNat).testBit k && siteRec c k x.Rec
  | _ => false
def contr (c : Cd) (t : Nat) (x : In) (σ : Sg) (r : Rw) (n : Nat) : Nat :=
  if dstB c t x = true ∧ r = .s t ∧ n = x.Dst.toNat then bringsN c σ t x
  else if x.Op = 5 ∧ meansO (getI (slL c.Globals) x.N) = true ∧ r = .g ∧ n = x.N.toNat then itemsN σ t (slL x.Items)
  else if x.Op = 6 ∧ meansO (getI (recL c x.Rec) x.N) = true ∧ toF c t x σ r = true ∧ n = x.N.toNat then itemsN σ t (slL x.Items)
  else 0
def stepS (c : Cd) (t : Nat) (x : In) (σ : Sg) : Sg := fun r n => σ r n ||| contr c t x σ r n
theorem items_mono {σ τ : Sg} (h : Le σ τ) (t : Nat) (l : List It) (i : Nat) (hi : (itemsN σ t l).testBit i = true) : (itemsN τ t l).testBit i = true := by
  unfold itemsN at *
  rw [orF_bit] at *
  obtain ⟨x, hx, hb⟩ := hi
  refine ⟨x, hx, ?_⟩
  split at hb
  · rename_i e; rw [if_pos e]; exact h _ _ _ hb
  · simp at hb
theorem fields_mono {c : Cd} {σ τ : Sg} (h : Le σ τ) (t : Nat) (x : In) (i : Nat) (hi : (fieldsN c σ t x).testBit i = true) : (fieldsN c τ t x).testBit i = true := by
  unfold fieldsN at *
  rw [orF_bit] at *
  obtain ⟨k, hk, hb⟩ := hi
  rw [mem_bits] at hk
  refine ⟨k, mem_bits.2 ⟨hk.1, h _ _ _ hk.2⟩, ?_⟩
  split at hb
  · rename_i e; rw [if_pos e]; exact h _ _ _ hb
  · simp at hb
theorem brings_mono {c : Cd} {σ τ : Sg} (h : Le σ τ) (t : Nat) (x : In) (i : Nat) (hi : (bringsN c σ t x).testBit i = true) : (bringsN c τ t x).testBit i = true := by
  unfold bringsN at *
  split
  · rename_i e; rw [if_pos e] at hi; exact items_mono h _ _ _ hi
  · rename_i e; rw [if_neg e] at hi
    split
    · rename_i e; rw [if_pos e] at hi; exact h _ _ _ hi
    · rename_i e; rw [if_neg e] at hi
      split
      · rename_i e; rw [if_pos e] at hi; exact hi
      · rename_i e; rw [if_neg e] at hi
        split
        · rename_i e; rw [if_pos e] at hi; exact fields_mono h _ _ _ hi
        · rename_i e; rw [if_neg e] at hi; exact hi
theorem toF_mono {c : Cd} {σ τ : Sg} (h : Le σ τ) (t : Nat) (x : In) (r : Rw) (hr : toF c t x σ r = true) : toF c t x τ r = true := by
  cases r with
  | f k =>
    simp only [toF, Bool.and_eq_true] at *
    exact ⟨h _ _ _ hr.1, hr.2⟩
  | _ => cases hr
theorem contr_bit (c : Cd) (t : Nat) (x : In) (σ : Sg) (r : Rw) (n i : Nat) : (contr c t x σ r n).testBit i = true ↔
    (dstB c t x = true ∧ r = .s t ∧ n = x.Dst.toNat ∧ (bringsN c σ t x).testBit i = true) ∨
    (x.Op = 5 ∧ meansO (getI (slL c.Globals) x.N) = true ∧ r = .g ∧ n = x.N.toNat ∧ (itemsN σ t (slL x.Items)).testBit i = true) ∨
    (x.Op = 6 ∧ meansO (getI (recL c x.Rec) x.N) = true ∧ toF c t x σ r = true ∧ n = x.N.toNat ∧ (itemsN σ t (slL x.Items)).testBit i = true) := by
  have d5 : dstB c t x = true → x.Op ≠ 5 ∧ x.Op ≠ 6 := by
    intro h
    simp only [dstB, Bool.and_eq_true, Bool.or_eq_true, decide_eq_true_eq] at h
    omega
  unfold contr
  by_cases h1 : dstB c t x = true ∧ r = .s t ∧ n = x.Dst.toNat
  · rw [if_pos h1]
    have := d5 h1.1
    constructor
    · intro h; exact Or.inl ⟨h1.1, h1.2.1, h1.2.2, h⟩
    · rintro (h | h | h)
      · exact h.2.2.2
      · exact absurd h.1 this.1
      · exact absurd h.1 this.2
  · rw [if_neg h1]
    by_cases h2 : x.Op = 5 ∧ meansO (getI (slL c.Globals) x.N) = true ∧ r = .g ∧ n = x.N.toNat
    · rw [if_pos h2]
      constructor
      · intro h; exact Or.inr (Or.inl ⟨h2.1, h2.2.1, h2.2.2.1, h2.2.2.2, h⟩)
      · rintro (h | h | h)
        · exact absurd ⟨h.1, h.2.1, h.2.2.1⟩ h1
        · exact h.2.2.2.2
        · have := h2.1; have := h.1; omega
    · rw [if_neg h2]
      by_cases h3 : x.Op = 6 ∧ meansO (getI (recL c x.Rec) x.N) = true ∧ toF c t x σ r = true ∧ n = x.N.toNat
      · rw [if_pos h3]
        constructor
        · intro h; exact Or.inr (Or.inr ⟨h3.1, h3.2.1, h3.2.2.1, h3.2.2.2, h⟩)
        · rintro (h | h | h)
          · exact absurd ⟨h.1, h.2.1, h.2.2.1⟩ h1
          · exact absurd ⟨h.1, h.2.1, h.2.2.1, h.2.2.2.1⟩ h2
          · exact h.2.2.2.2
      · rw [if_neg h3]
        constructor
        · intro h; simp at h
        · rintro (h | h | h)
          · exact absurd ⟨h.1, h.2.1, h.2.2.1⟩ h1
          · exact absurd ⟨h.1, h.2.1, h.2.2.1, h.2.2.2.1⟩ h2
          · exact absurd ⟨h.1, h.2.1, h.2.2.1, h.2.2.2.1⟩ h3
theorem contr_mono {c : Cd} {σ τ : Sg} (h : Le σ τ) (t : Nat) (x : In) : Le (contr c t x σ) (contr c t x τ) := by
  intro r n i hi
  rw [contr_bit] at *
  rcases hi with ⟨h1, h2, h3, h4⟩ | ⟨h1, h2, h3, h4, h5⟩ | ⟨h1, h2, h3, h4, h5⟩
  · exact Or.inl ⟨h1, h2, h3, brings_mono h _ _ _ h4⟩
  · exact Or.inr (Or.inl ⟨h1, h2, h3, h4, items_mono h _ _ _ h5⟩)
  · exact Or.inr (Or.inr ⟨h1, h2, toF_mono h _ _ _ h3, h4, items_mono h _ _ _ h5⟩)
theorem le_step (c : Cd) (t : Nat) (x : In) (σ : Sg) : Le σ (stepS c t x σ) := fun r n i h => by
  unfold stepS; rw [Nat.testBit_or, h]; rfl
theorem step_le {c : Cd} {t : Nat} {x : In} {σ τ : Sg} (h : Le σ τ) (hc : Le (contr c t x τ) τ) : Le (stepS c t x σ) τ := fun r n i hi => by
  unfold stepS at hi
  rw [Nat.testBit_or, Bool.or_eq_true] at hi
  rcases hi with hi | hi
  · exact h r n i hi
  · exact hc r n i (contr_mono h t x r n i hi)
theorem step_id {c : Cd} {t : Nat} {x : In} {σ : Sg} (h : stepS c t x σ = σ) : Le (contr c t x σ) σ := fun r n i hi => by
  rw [← h]; unfold stepS; rw [Nat.testBit_or, hi, Bool.or_true]
def Cl (c : Cd) (σ : Sg) : Prop := ∀ (t : Nat) (b : Bd) (a : Nat) (x : In), (slL c.Threads)[t]? = some b → (slL b.Code)[a]? = some x → Le (contr c t x σ) σ
def Lw (c : Cd) (σ : Sg) : Prop := ∀ τ, Cl c τ → Le σ τ
theorem Lw.step {c : Cd} {t a : Nat} {b : Bd} {x : In} {σ : Sg} (h : Lw c σ) (hb : (slL c.Threads)[t]? = some b) (hx : (slL b.Code)[a]? = some x) : Lw c (stepS c t x σ) := fun τ ht => step_le (h τ ht) (ht t b a x hb hx)
/-! What of a code that can be is known. -/
structure Wf (c : Cd) (b : Bd) (x : In) : Prop where
  dst : (x.Op = 1 ∨ x.Op = 2 ∨ x.Op = 3 ∨ x.Op = 4 ∨ x.Op = 8 ∨ x.Op = 9 ∨ x.Op = 10) → btw x.Dst (slL b.Slots).length = true
  items : (x.Op = 1 ∨ x.Op = 5 ∨ x.Op = 6) → (∀ y ∈ slL x.Items, y.Op = 2 → y.N < (slL b.Slots).length) ∧ (slL x.Items).length ≤ 64
  glob : (x.Op = 2 ∨ x.Op = 5) → btw x.N (slL c.Globals).length = true
  fld : (x.Op = 3 ∨ x.Op = 6) → ∃ r, getI (slL c.Records) x.Rec = some r ∧ btw x.N (slL r).length = true ∧ btw x.Src (slL b.Slots).length = true
  site : (x.Op = 8 ∨ x.Op = 9) → btw x.N (slL c.Sites).length = true
  ints : (x.Op = 4 ∨ x.Op = 10) → ∀ l, getI (slL b.Slots) x.Dst = some l → l.Kind = 1
theorem isB_in {b : Bd} {n : Int} {w : Lo} (h : isB b n w = true) : btw n (slL b.Slots).length = true := by
  cases hb : btw n (slL b.Slots).length with
  | true => rfl
  | false => rw [isB_not hb] at h; cases h
theorem isB_kind {b : Bd} {n : Int} {w l : Lo} (h : isB b n w = true) (hl : getI (slL b.Slots) n = some l) : l.Kind = w.Kind ∧ l.Rec = w.Rec := by
  unfold isB at h
  rw [hl] at h
  simp only [sameB, Bool.and_eq_true, decide_eq_true_eq] at h
  exact h
theorem items_in {b : Bd} {o : Option (List It)} (h : itemsB b o = true) : (∀ y ∈ slL o, y.Op = 2 → y.N < (slL b.Slots).length) ∧ (slL o).length ≤ 64 := by
  have h : goodP (slL o) (slL b.Slots).length := by simpa [itemsB, goodB] using h
  refine ⟨fun y hy h2 => ?_, h.2.2⟩
  obtain ⟨k, hk⟩ := List.getElem?_of_mem hy
  have := (h.1 k (List.getElem?_eq_some_iff.1 hk).1 y hk).1
  unfold fitsB at this
  rw [if_neg (by omega), if_pos h2] at this
  simp only [Bool.and_eq_true, decide_eq_true_eq] at this
  omega
theorem field_in {c : Cd} {b : Bd} {x : In} {f : Lo} (h : fieldO c b x = some f) : ∃ r, getI (slL c.Records) x.Rec = some r ∧ btw x.N (slL r).length = true ∧ btw x.Src (slL b.Slots).length = true := by
  unfold fieldO at h
  cases h1 : getI (slL c.Records) x.Rec with
  | none => rw [h1] at h; cases h
  | some r =>
    rw [h1] at h
    simp only at h
    cases h2 : getI (slL r) x.N with
    | none => rw [h2] at h; cases h
    | some f =>
      rw [h2] at h
      simp only at h
      cases h3 : isB b x.Src ⟨4, x.Rec, false⟩ with
      | false => rw [h3] at h; simp at h
      | true => exact ⟨r, rfl, getI_some.2 ⟨f, h2⟩, isB_in h3⟩
theorem instr_wf {c : Cd} {t a : Int} {b : Bd} {x : In} (h : instrB c t b x a = true) : Wf c b x := by
  refine ⟨?_, ?_, ?_, ?_, ?_, ?_⟩
  · rintro (e | e | e | e | e | e | e)
    all_goals (unfold instrB loadsB at h; simp only [e] at h; simp at h)
    · exact h.1.2
    · obtain ⟨_, _, h⟩ := h; split at h <;> first | exact isB_in h | cases h
    · obtain ⟨_, _, h⟩ := h; split at h <;> first | exact isB_in h | cases h
    · exact isB_in h.2.1.1.2
    · exact isB_in h.2.1.2
    · exact isB_in h.2.1.1.2
    · exact isB_in h.1.2
  · rintro (e | e | e)
    all_goals (unfold instrB storesB at h; simp only [e] at h; simp at h)
    · exact items_in h.2
    · exact items_in h.2.2
    · exact items_in h.2.2
  · rintro (e | e)
    all_goals (unfold instrB loadsB storesB at h; simp only [e] at h; simp at h)
    · obtain ⟨_, _, h⟩ := h
      split at h
      · rename_i g hg; exact getI_some.2 ⟨g, hg⟩
      · cases h
    · exact h.2.1.2
  · rintro (e | e)
    all_goals (unfold instrB loadsB storesB at h; simp only [e] at h; simp at h)
    · obtain ⟨_, _, h⟩ := h
      split at h
      · rename_i g hg; exact field_in hg
      · cases h
    · obtain ⟨_, ⟨_, h⟩, _⟩ := h
      obtain ⟨f, hf⟩ := Option.isSome_iff_exists.1 h
      exact field_in hf
  · rintro (e | e)
    all_goals (unfold instrB loadsB siteB at h; simp only [e] at h; simp at h)
    · exact getI_some.2 ⟨_, h.2.2⟩
    · exact getI_some.2 ⟨_, h.2.2⟩
  · rintro (e | e) l hl
    all_goals (unfold instrB loadsB at h; simp only [e] at h; simp at h)
    · exact (isB_kind h.2.1.1.2 hl).1
    · exact (isB_kind h.1.2 hl).1
structure WfC (c : Cd) : Prop where
  thr : (slL c.Threads).length ≤ 4
  sit : (slL c.Sites).length ≤ 32
  glo : (slL c.Globals).length ≤ 8
  recs : ∀ r ∈ slL c.Records, (slL r).length ≤ 6
  slo : ∀ (t : Nat) (b : Bd), (slL c.Threads)[t]? = some b → (slL b.Slots).length ≤ 64 ∧ (slL b.Code).length ≤ 256
  ins : ∀ (t a : Nat) (b : Bd) (x : In), (slL c.Threads)[t]? = some b → (slL b.Code)[a]? = some x → Wf c b x
  site : ∀ (k : Nat) (s : Api_Site), (slL c.Sites)[k]? = some s → s.Rec = -1 ∨ ∃ r, getI (slL c.Records) s.Rec = some r
theorem wf_of {c : Cd} (h : okC c = true) : WfC c := by
  obtain ⟨h1, h2, h3, h4, h5, h6, h7⟩ := okC_split h
  have h7' : ∀ (t : Nat) (b : Bd), (slL c.Threads)[t]? = some b → threadB c t b = true := allK_iff.1 h7
  have hin : ∀ (t a : Nat) (b : Bd) (x : In), (slL c.Threads)[t]? = some b → (slL b.Code)[a]? = some x → instrB c t b x a = true := by
    intro t a b x hb hx
    have ht := h7' t b hb
    simp only [threadB, Bool.and_eq_true] at ht
    exact allK_iff.1 ht.2 a x hx
  have hs : (slL c.Sites).length ≤ 32 ∧ allK (siteOk c) (slL c.Sites) = true := by
    simpa [sitesB] using h5
  refine ⟨h2, hs.1, ?_, ?_, ?_, fun t a b x hb hx => instr_wf (hin t a b x hb hx), ?_⟩
  · simp only [cellsB, Bool.and_eq_true, decide_eq_true_eq] at h3; omega
  · intro r hr
    have := List.all_eq_true.1 h6 r hr
    simp only [cellsB, Bool.and_eq_true, decide_eq_true_eq] at this; omega
  · intro t b hb
    have ht := h7' t b hb
    simp only [threadB, bodyB, Bool.and_eq_true, decide_eq_true_eq] at ht
    omega
  · intro k s hk
    have hk2 := allK_iff.1 hs.2 k s hk
    unfold siteOk codeAt at hk2
    cases hb : getI (slL c.Threads) s.Thread with
    | none => rw [hb] at hk2; cases hk2
    | some b =>
      rw [hb] at hk2
      simp only at hk2
      cases hx : getI (slL b.Code) s.At with
      | none => rw [hx] at hk2; cases hk2
      | some x =>
        rw [hx] at hk2
        simp only [Bool.and_eq_true, Bool.or_eq_true, decide_eq_true_eq] at hk2
        obtain ⟨t, et, hb2⟩ := getI_nat hb
        obtain ⟨a, ea, hx2⟩ := getI_nat hx
        have hi := hin t a b x hb2 hx2
        have hsk : getI (slL c.Sites) x.N = some s := by rw [hk2.1, getI_natCast]; exact hk
        rcases hk2.2 with e | e
        · unfold instrB loadsB siteB at hi; simp only [e] at hi; simp at hi
          rw [hsk] at hi
          have := hi.2.2
          have hrec := hi.2.1.1.2
          obtain ⟨r, hr⟩ := getI_some.1 hrec
          simp only [Option.some.injEq] at this
          right
          exact ⟨r, by rw [this]; exact hr⟩
        · unfold instrB loadsB siteB at hi; simp only [e] at hi; simp at hi
          rw [hsk] at hi
          have := hi.2.2
          simp only [Option.some.injEq] at this
          left
          rw [this]
def Bd2 (c : Cd) (σ : Sg) : Prop := ∀ r n i, (σ r n).testBit i = true → i < (slL c.Sites).length
theorem items_bd {c : Cd} {σ : Sg} (h : Bd2 c σ) {t : Nat} {l : List It} {i : Nat} (hi : (itemsN σ t l).testBit i = true) : i < (slL c.Sites).length := by
  unfold itemsN at hi
  rw [orF_bit] at hi
  obtain ⟨x, _, hb⟩ := hi
  split at hb
  · exact h _ _ _ hb
  · simp at hb
theorem brings_bd {c : Cd} {σ : Sg} (h : Bd2 c σ) {b : Bd} {x : In} (w : Wf c b x) {t i : Nat} (hi : (bringsN c σ t x).testBit i = true) : i < (slL c.Sites).length := by
  unfold bringsN at hi
  split at hi
  · exact items_bd h hi
  · split at hi
    · exact h _ _ _ hi
    · split at hi
      · rename_i e
        have := w.site e
        simp only [btw, Bool.and_eq_true, decide_eq_true_eq] at this
        rw [Nat.testBit_two_pow] at hi
        have := of_decide_eq_true hi
        omega
      · split at hi
        · unfold fieldsN at hi
          rw [orF_bit] at hi
          obtain ⟨k, _, hb⟩ := hi
          split at hb
          · exact h _ _ _ hb
          · simp at hb
        · simp at hi
theorem Bd2.step {c : Cd} {σ : Sg} (h : Bd2 c σ) {b : Bd} {x : In} (w : Wf c b x) (t : Nat) : Bd2 c (stepS c t x σ) := fun r n i hi => by
  unfold stepS at hi
  rw [Nat.testBit_or, Bool.or_eq_true, contr_bit] at hi
  rcases hi with hi | ⟨_, _, _, hi⟩ | ⟨_, _, _, _, hi⟩ | ⟨_, _, _, _, hi⟩
  · exact h _ _ _ hi
  · exact brings_bd h w hi
  · exact items_bd h hi
  · exact items_bd h hi
theorem lt_of_bits {x n : Nat} (h : ∀ i, x.testBit i = true → i < n) : x < 2 ^ n := by
  apply Nat.lt_pow_two_of_testBit
  intro i hi
  cases hb : x.testBit i with
  | false => rfl
  | true => have := h i hb; omega
theorem Bd2.lt {c : Cd} {σ : Sg} (h : Bd2 c σ) (r : Rw) (n : Nat) : σ r n < 2 ^ (slL c.Sites).length := lt_of_bits (h r n)
theorem pow_small {n : Nat} (h : n ≤ 32) : 2 ^ n ≤ 4294967296 := by
  have := Nat.pow_le_pow_right (show 0 < 2 by decide) h
  simpa using this
def Rg (c : Cd) (σ : Sg) : Prop := ∀ r n, σ r n ≠ 0 → n < lenR c r
theorem contr_rg {c : Cd} {σ : Sg} (h : Rg c σ) {t : Nat} {b : Bd} {x : In} (hb : (slL c.Threads)[t]? = some b) (w : Wf c b x) {r : Rw} {n i : Nat} (hi : (contr c t x σ r n).testBit i = true) : n < lenR c r := by
  have hsl : slotsL c t = slL b.Slots := by unfold slotsL; rw [hb]
  rw [contr_bit] at hi
  rcases hi with ⟨h1, rfl, h3, -⟩ | ⟨h1, -, rfl, h4, -⟩ | ⟨h1, -, h3, h4, -⟩
  · have hd := w.dst (by simp only [dstB, Bool.and_eq_true, Bool.or_eq_true, decide_eq_true_eq] at h1; omega)
    simp only [btw, Bool.and_eq_true, decide_eq_true_eq] at hd
    simp only [lenR, hsl]
    omega
  · have hd := w.glob (Or.inr h1)
    simp only [btw, Bool.and_eq_true, decide_eq_true_eq] at hd
    simp only [lenR]
    omega
  · obtain ⟨rr, hr, hn, _⟩ := w.fld (Or.inr h1)
    cases r with
    | f k =>
      simp only [toF, siteRec, Bool.and_eq_true] at h3
      simp only [lenR]
      cases hk : (slL c.Sites)[k]? with
      | none => rw [hk] at h3; simp at h3
      | some s =>
        rw [hk] at h3
        have h3 := of_decide_eq_true h3.2
        simp only [recL, h3, hr]
        simp only [btw, Bool.and_eq_true, decide_eq_true_eq] at hn
        omega
    | g => cases h3
    | s t => cases h3
theorem ne_zero_bit {n : Nat} (h : n ≠ 0) : ∃ i, n.testBit i = true := by
  apply Classical.byContradiction
  intro hn
  apply h
  apply Nat.eq_of_testBit_eq
  intro i
  cases hb : n.testBit i with
  | false => simp
  | true => exact absurd ⟨i, hb⟩ hn
theorem Rg.step {c : Cd} {σ : Sg} (h : Rg c σ) {t : Nat} {b : Bd} {x : In} (hb : (slL c.Threads)[t]? = some b) (w : Wf c b x) : Rg c (stepS c t x σ) := fun r n hn => by
  obtain ⟨i, hi⟩ := ne_zero_bit hn
  unfold stepS at hi
  rw [Nat.testBit_or, Bool.or_eq_true] at hi
  rcases hi with hi | hi
  · exact h r n (by rintro e; rw [e] at hi; simp at hi)
  · exact contr_rg h hb w hi
/-! How much may come yet. -/
def keysC (c : Cd) : List (Rw × Nat) :=
  ((List.range (lenR c .g)).map fun n => (Rw.g, n)) ++
  ((List.range (slL c.Threads).length).flatMap fun t => (List.range (lenR c (.s t))).map fun n => (Rw.s t, n)) ++
  ((List.range (slL c.Sites).length).flatMap fun k => (List.range (lenR c (.f k))).map fun n => (Rw.f k, n))
theorem mem_keys {c : Cd} {r : Rw} {n : Nat} (h : n < lenR c r) : (r, n) ∈ keysC c := by
  unfold keysC
  simp only [List.mem_append, List.mem_map, List.mem_flatMap, List.mem_range, Prod.mk.injEq]
  cases r with
  | g => exact Or.inl (Or.inl ⟨n, h, rfl, rfl⟩)
  | s t =>
    have ht : t < (slL c.Threads).length := by
      apply Classical.byContradiction
      intro hn
      simp only [lenR, slotsL] at h
      rw [List.getElem?_eq_none (by omega)] at h
      simp at h
    exact Or.inl (Or.inr ⟨t, ht, n, h, rfl, rfl⟩)
  | f k =>
    have hk : k < (slL c.Sites).length := by
      apply Classical.byContradiction
      intro hn
      simp only [lenR] at h
      rw [List.getElem?_eq_none (by omega)] at h
      simp at h
    exact Or.inr ⟨k, hk, n, h, rfl, rfl⟩
def leftOf (c : Cd) (σ : Sg) : Nat := ((keysC c).map fun k => 2 ^ (slL c.Sites).length - σ k.1 k.2).sum
theorem sum_lt {α : Type} {f g : α → Nat} {l : List α} (h : ∀ x ∈ l, f x ≤ g x) {y : α} (hy : y ∈ l) (hlt : f y < g y) : (l.map f).sum < (l.map g).sum := by
  induction l with
  | nil => cases hy
  | cons x l ih =>
    simp only [List.map_cons, List.sum_cons]
    have hle : (l.map f).sum ≤ (l.map g).sum := by
      clear ih hy
      induction l with
      | nil => simp
      | cons z l ih =>
        simp only [List.map_cons, List.sum_cons]
        have := h z (by simp)
        have := ih (fun x hx => h x (by
          rcases List.mem_cons.1 hx with rfl | hx
          · simp
          · simp [hx]))
        omega
    have hx := h x (by simp)
    rcases List.mem_cons.1 hy with rfl | hy
    · omega
    · have := ih (fun z hz => h z (by simp [hz])) hy
      omega
theorem le_nat {a b : Nat} (h : ∀ i, a.testBit i = true → b.testBit i = true) : a ≤ b := by
  have : b = a ||| b := by
    apply Nat.eq_of_testBit_eq
    intro i
    rw [Nat.testBit_or]
    cases ha : a.testBit i with
    | false => simp
    | true => simp [h i ha]
  rw [this]
  exact Nat.left_le_or
theorem left_lt {c : Cd} {σ τ : Sg} (h : Le σ τ) (hb : Bd2 c τ) (hr : Rg c τ) (hn : τ ≠ σ) : leftOf c τ < leftOf c σ := by
  obtain ⟨r, n, hd⟩ : ∃ r n, τ r n ≠ σ r n := by
    apply Classical.byContradiction
    intro hc
    apply hn
    funext r n
    apply Classical.byContradiction
    intro he
    exact hc ⟨r, n, he⟩
  have hle : ∀ r n, σ r n ≤ τ r n := fun r n => le_nat (h r n)
  have hz : τ r n ≠ 0 := by have := hle r n; omega
  have hk := mem_keys (hr r n hz)
  unfold leftOf
  refine sum_lt (fun k _ => ?_) hk ?_
  · have := hle k.1 k.2; omega
  · have := hle r n
    have := hb.lt r n
    simp only
    omega
end Go.Proofs.YtopfjochppdnfaaDoor
end

section
/- The slots that items name: what the program's Uses answers. -/
set_option maxRecDepth 8000
set_option maxHeartbeats 1000000
namespace Go.Proofs.YtopfjochppdnfaaDoor
open Go.Abs
theorem bld1 (e : TypeId) (b : Nat) (kk : IntKind) (n : Int) (h : AHeap) (z : AV) (K : AV → AHeap → Prop) : pBuildSl true { e := e, sz := 1, by_ := b } [z] 1 [(0, .int kk n)] h K = K (.isl 1 [[.int kk n]]) h := by
  simp [pBuildSl, fillE, AV.fits, AV.cells]
def usesL : List It → List Int
  | [] => []
  | x :: l => if x.Op = 2 then IntKind.i64.wrap x.N :: usesL l else usesL l
theorem usesL_append (l m : List It) : usesL (l ++ m) = usesL l ++ usesL m := by
  induction l with
  | nil => rfl
  | cons x l ih => simp only [List.cons_append, usesL, ih]; split <;> simp
theorem usesL_len (l : List It) : (usesL l).length ≤ l.length := by
  induction l with
  | nil => simp [usesL]
  | cons x l ih => simp only [usesL]; split <;> simp <;> omega
def gsI (id : Nat) (l : List Int) : AV := match l with | [] => .nils | _ => .gsl id 1 (l.map encI)
@[simp] theorem gsI_len (id : Nat) (l : List Int) (K : AV → Prop) : pLen .slice (gsI id l) K = K (.int .i64 l.length) := by cases l <;> simp [gsI]
theorem gsI_at {id : Nat} {l : List Int} {k : Nat} {v : Int} (hk : l[k]? = some v) (kk : IntKind) (K : AV → Prop) : pIndexAddr (.slice 1) (gsI id l) (.int kk (k : Int)) K = K (.iptr [.int .i64 v]) := by
  cases l with
  | nil => simp at hk
  | cons a l =>
    have : ((a :: l).map encI)[k]? = some [AV.int .i64 v] := by rw [List.getElem?_map, hk]; rfl
    simp only [gsI, pIndexAddr, Int.toNat_natCast, this]
    simp
theorem gsI_push {h : AHeap} {lo id : Nat} {l : List Int} (hl : lo ≤ h.next) (hlen : l.length ≤ 100000) (p : l = [] ∨ (lo ≤ id ∧ id < h.next ∧ h.objs id = some (.tok 3 l.length))) (v : Int) {K : AV → AHeap → Prop}
    (hK : ∀ id2 h2, id2 < h2.next → lo ≤ id2 → h2.objs id2 = some (.tok 3 (l ++ [v]).length) → Keeps h h2 (fun x => lo ≤ x) → K (gsI id2 (l ++ [v])) h2) : pAppend true { e := 3, sz := 1, by_ := 8 } (gsI id l) (.isl 1 [[.int .i64 v]]) h K := by
  cases l with
  | nil =>
    simp only [gsI, pAppend, srcElems, if_true, newSl]
    refine ⟨by simp [bounded, maxLen], ?_⟩
    exact hK h.next _ (by simp) hl (by simp) ⟨by simp, fun x hx hs => by simp; omega⟩
  | cons a l =>
    rcases p with p | ⟨p1, p2, p3⟩
    · cases p
    · simp only [gsI, pAppend, srcElems, if_true, p3]
      refine ⟨trivial, trivial, by simp, by simp [bounded, maxLen] at hlen ⊢; omega, ?_⟩
      have := hK h.next ((h.kill id).push (.tok 3 ((((a :: l).map encI ++ [[AV.int .i64 v]]) : List (List AV)).length * 1))) (by simp) hl (by simp) ⟨by simp, fun x hx hs => by
        simp only [AHeap.push_objs, AHeap.kill_objs]
        rw [if_neg (show ¬ x = (h.kill id).next by simp only [AHeap.kill_next]; omega), if_neg (by omega)]⟩
      simpa [gsI, encI] using this
theorem calc_Uses_does (items : Option (List It)) (hok : okSl Api_Item.ok items) (hit : (slL items).length ≤ 1000) (h : AHeap) :
    CallsA Tryd.prog 77 [slAV 3 Api_Item.cells items] h (fun v h2 => (∃ id, v = gsI id (usesL (slL items))) ∧ Keeps h h2 (fun _ => False)) := by
  apply calc_Uses_wp
  (repeat simp -dsimp -implicitDefEqProofs only [↓rP, rQ, rL, ↓reduceIte, Nat.reduceEqDiff, Nat.reduceAdd, Nat.reduceLeDiff, pBuild, fillA])
  refine WP_loop mixed_ (by kernel_rfl) (fun m fr hh => ∃ (k id : Nat), k ≤ (slL items).length ∧ m = (slL items).length - k ∧ Keeps h hh (fun _ => False) ∧ (usesL ((slL items).take k) = [] ∨ (h.next ≤ id ∧ id < hh.next ∧ hh.objs id = some (.tok 3 (usesL ((slL items).take k)).length))) ∧
    fr = frOf [(3, gsI id (usesL ((slL items).take k))), (6, slAV 3 Api_Item.cells items), (7, .int .i64 (slL items).length), (8, .int .i64 k)]) (slL items).length ⟨0, 0, by omega, by omega, .refl _ _, Or.inl rfl, rfl⟩ ?_
  rintro m fr hh ⟨k, id, hk, rfl, kp, pt, rfl⟩
  apply calc_Uses_loop3
  generalize hI : (fun (m : Nat) (fr : Fr) (hh : AHeap) => _) = I
  by_cases hkl : k < (slL items).length
  · have hx : (slL items)[k]? = some (slL items)[k] := List.getElem?_eq_getElem hkl
    have hxok := hok.2 _ (List.mem_of_getElem? hx)
    have hsn : (slL items).take (k + 1) = (slL items).take k ++ [(slL items)[k]] := by rw [List.take_add_one, hx]; rfl
    generalize (slL items)[k] = x at *
    have d0 : decide ((k : Int) < ((slL items).length : Int)) = true := decide_eq_true (by omega)
    have hc : x.cells = [.int .i64 x.Op, .int .i64 x.Bin, .int .u64 (x.N : Nat)] := rfl
    have wk : IntKind.i64.wrap ((k : Int) + 1) = ((k + 1 : Nat) : Int) := by rw [wrapI (by omega) (by omega)]; omega
    (repeat simp -dsimp -implicitDefEqProofs only [↓rP, rQ, rL, ↓reduceIte, Nat.reduceEqDiff, Nat.reduceAdd, Nat.reduceLeDiff, pBuild, fillA, d0, pIndexAddr_slAV hx, hc])
    rw [pStore_push (by rfl) (by rfl)]
    have kA := Keeps.push hh (.row 60 [.int .i64 x.Op, .int .i64 x.Bin, .int .u64 (x.N : Nat)])
    have ul := usesL_len ((slL items).take k)
    have hul : (usesL ((slL items).take k)).length ≤ 1000 := by simp at ul; omega
    have kn := kp.next
    by_cases h2 : x.Op = 2
    · have e2 : (x.Op == 2) = true := by simp [h2]
      have hu : usesL ((slL items).take (k + 1)) = usesL ((slL items).take k) ++ [IntKind.i64.wrap x.N] := by rw [hsn, usesL_append]; simp [usesL, h2]
      (repeat simp -dsimp -implicitDefEqProofs only [↓rP, rQ, rL, ↓reduceIte, Nat.reduceEqDiff, Nat.reduceAdd, Nat.reduceLeDiff, pBuild, fillA, e2, bld1])
      refine gsI_push (lo := h.next) (by simp; omega) (by omega) ?_ (IntKind.i64.wrap x.N) fun id2 h3 q1 q2 q3 q4 => ?_
      · rcases pt with pt | ⟨p1, p2, p3⟩
        · exact Or.inl pt
        · exact Or.inr ⟨p1, by simp; omega, by rw [kA.objs id p2 (fun h => h)]; exact p3⟩
      · (repeat simp -dsimp -implicitDefEqProofs only [↓rP, rQ, rL, ↓reduceIte, Nat.reduceEqDiff, Nat.reduceAdd, Nat.reduceLeDiff, pBuild, fillA, wk])
        rw [loopPost_normal, ← hI]
        refine ⟨_, ?_, k + 1, id2, by omega, rfl, ?_, Or.inr ⟨q2, q1, by rw [hu]; exact q3⟩, by rw [hu]⟩
        · omega
        · exact (kp.trans kA (fun _ _ h => h)).trans q4 (fun y hy hl => absurd hl (by omega))
    · have e2 : (x.Op == 2) = false := by simp [h2]
      have hu : usesL ((slL items).take (k + 1)) = usesL ((slL items).take k) := by rw [hsn, usesL_append]; simp [usesL, h2]
      (repeat simp -dsimp -implicitDefEqProofs only [↓rP, rQ, rL, ↓reduceIte, Nat.reduceEqDiff, Nat.reduceAdd, Nat.reduceLeDiff, pBuild, fillA, e2, wk])
      rw [loopPost_normal, ← hI]
      refine ⟨_, ?_, k + 1, id, by omega, rfl, kp.trans kA (fun _ _ h => h), ?_, by rw [hu]⟩
      · omega
      · rw [hu]
        rcases pt with pt | ⟨p1, p2, p3⟩
        · exact Or.inl pt
        · exact Or.inr ⟨p1, by simp; omega, by rw [kA.objs id p2 (fun h => h)]; exact p3⟩
  · have hke : k = (slL items).length := by omega
    subst hke
    rw [List.take_length] at *
    have d0 : decide (((slL items).length : Int) < ((slL items).length : Int)) = false := decide_eq_false (by omega)
    (repeat simp -dsimp -implicitDefEqProofs only [↓rP, rQ, rL, ↓reduceIte, Nat.reduceEqDiff, Nat.reduceAdd, Nat.reduceLeDiff, pBuild, fillA, d0])
    first | exact ⟨⟨id, rfl⟩, kp⟩ | exact ⟨⟨id, trivial⟩, kp⟩
end Go.Proofs.YtopfjochppdnfaaDoor
end

section
/- The conditions of classes lie among those of sets. -/
end

section
/- What the program's functions of classes do: the lowest bit, the bits one by one, roots. -/
set_option maxRecDepth 100000
set_option maxHeartbeats 1000000
namespace Go.Proofs.YtopfjochppdnfaaDoor
open Go.Abs
theorem tab_at (j : Nat) (hj : j < 64) (K : AV → Prop) : pIndexAddr (IxK.array 64 1) (.iptr (tabBits.map (.int .u8 ·))) (.int .u64 (j : Int)) K = K (.iptr ((tabBits.map (AV.int .u8 ·)).drop j)) := by
  have h1 : (0 : Int) ≤ (j : Int) ∧ (j : Int) < 64 := by omega
  simp [pIndexAddr, h1]
theorem tab_ld {j k : Nat} (hj : tabBits[j]? = some (k : Int)) (H : AHeap) (K : AV → Prop) : pLoad none (.iptr ((tabBits.map (AV.int .u8 ·)).drop j)) H K = K (.int .u8 (k : Nat)) := by
  rw [pLoad_iptr]
  simp [pCells, List.getElem?_drop, List.getElem?_map, hj]
theorem tz_does (x : Nat) (hx : x < 18446744073709551616) (h : AHeap) : CallsA Tryd.prog 33 [.int .u64 x] h (fun v h2 => v = .int .i64 (firstB x : Nat) ∧ h2 = h) := by
  apply math_bits_TrailingZeros64_wp
  by_cases h0 : x = 0
  · subst h0
    (repeat simp -dsimp -implicitDefEqProofs (disch := omega) only [↓rP, rQ, rO, rL, ↓reduceIte, Nat.reduceEqDiff, Nat.reduceAdd, Nat.reduceLeDiff, pBuild, fillA, ↓tyr])
    rw [firstB_zero]; rfl
  have e0 : ((x : Int) == 0) = false := by simpa using h0
  obtain ⟨h1, h2, h3⟩ := firstB_low h0 hx
  obtain ⟨d1, d2⟩ := debruijn (firstB x) h1
  have en : IntKind.u64.wrap (0 - (x : Int)) = ((18446744073709551616 - x : Nat) : Int) := by rw [wr_u64]; omega
  have ea : iAnd .u64 (x : Int) ((18446744073709551616 - x : Nat) : Int) = ((2 ^ firstB x : Nat) : Int) := by rw [iAnd_u64 _ _ hx (by omega), and_neg h0 hx]
  have em : IntKind.u64.wrap (((2 ^ firstB x : Nat) : Int) * 285870213051353865) = ((2 ^ firstB x * 285870213051353865 % 18446744073709551616 : Nat) : Int) := by rw [wr_u64]; omega
  have es : iShr .u64 ((2 ^ firstB x * 285870213051353865 % 18446744073709551616 : Nat) : Int) ((58 : Nat) : Int) = ((2 ^ firstB x * 285870213051353865 % 18446744073709551616 / 2 ^ 58 : Nat) : Int) := iShr_u64 _ 58 (by decide)
  have e58 : ((58 : Nat) : Int) = 58 := rfl
  rw [e58] at es
  generalize 2 ^ firstB x * 285870213051353865 % 18446744073709551616 / 2 ^ 58 = j at *
  generalize 2 ^ firstB x * 285870213051353865 % 18446744073709551616 = p at *
  generalize 18446744073709551616 - x = q at *
  generalize 2 ^ firstB x = z at *
  have sh : binA CmpK.other BinOp.shr (.int .u64 (p : Int)) (.int .u64 58) = some (.int .u64 (j : Int)) := by rw [binA_shr, if_neg (by decide), es]
  (repeat simp -dsimp -implicitDefEqProofs (disch := omega) only [↓rP, rQ, rO, rL, ↓reduceIte, Nat.reduceEqDiff, Nat.reduceAdd, Nat.reduceLeDiff, pBuild, fillA, ↓tyr, e0, en, ea, em, sh])
  refine Eq.mpr (tab_at j d2 _) ?_
  (repeat simp -dsimp -implicitDefEqProofs (disch := omega) only [↓rP, rQ, rO, rL, ↓reduceIte, Nat.reduceEqDiff, Nat.reduceAdd, Nat.reduceLeDiff, pBuild, fillA, ↓tyr, tab_ld d1])
def nsAV (f : List Nat) : List AV := f.map fun (n : Nat) => AV.int .i64 n
theorem nsAV_len (f : List Nat) : (nsAV f).length = f.length := by simp [nsAV]
theorem nsAV_set (f : List Nat) (i v : Nat) : (nsAV f).set i (.int .i64 v) = nsAV (f.set i v) := by simp [nsAV, List.map_set]
theorem nsAV_get (f : List Nat) (i : Nat) : (nsAV f)[i]? = f[i]?.map fun (n : Nat) => AV.int .i64 n := by simp [nsAV]
theorem each_does (x : Nat) (h : AHeap) : CallsA Tryd.prog 44 [.int .u64 x] h (fun v h2 => v = .fn (Fn.func 58) [] [.ptr h.next 0] ∧ h2 = h.push (.row 23 [.int .u64 x])) := by
  apply pts_Each_wp
  (repeat simp -dsimp -implicitDefEqProofs (disch := omega) only [↓rP, rQ, rO, rL, ↓reduceIte, Nat.reduceEqDiff, Nat.reduceAdd, Nat.reduceLeDiff, pBuild, fillA, ↓tyr])
theorem each1_does {y b : Nat} {x : Nat} (hx : x < 18446744073709551616) (J : Nat → AHeap → Prop) (Jx : AHeap → Prop) (h : AHeap) (ho : h.objs b = some (.row 23 [.int .u64 x])) (h0 : J 0 h)
    (hput : ∀ n hh o, J n hh → J n (hh.put b o))
    (hY : ∀ n k hh o, (bitsOf x)[n]? = some k → J n hh → hh.objs b = some o → YieldW Tryd.prog y [.int .i64 (k : Nat)] hh (fun v h' => (v = .bool true ∧ h'.objs b = some o ∧ J (n + 1) h') ∨ (v = .bool false ∧ Jx h'))) :
    CallsA Tryd.prog 58 [.yld y, .ptr b 0] h (fun _ h' => J (bitsOf x).length h' ∨ Jx h') := by
  apply pts_Each_1_wp
  (repeat simp -dsimp -implicitDefEqProofs (disch := omega) only [↓rP, rQ, rO, rL, ↓reduceIte, Nat.reduceEqDiff, Nat.reduceAdd, Nat.reduceLeDiff, pBuild, fillA, ↓tyr])
  obtain ⟨I, hI⟩ : ∃ I : Nat → Fr → AHeap → Prop, I = (fun m fr hh => ∃ n r, m = (bitsOf x).length - n ∧ n ≤ (bitsOf x).length ∧ r < 18446744073709551616 ∧ bitsOf r = (bitsOf x).drop n ∧ hh.objs b = some (.row 23 [.int .u64 (r : Nat)]) ∧ J n hh ∧ fr = frOf [(0, .yld y), (1, .ptr b 0)]) := ⟨_, rfl⟩
  refine WP_loop mixed_ (by kernel_rfl) I (bitsOf x).length (by rw [hI]; exact ⟨0, x, rfl, Nat.zero_le _, hx, rfl, ho, h0, rfl⟩) ?_
  intro m fr hh hi
  rw [hI] at hi
  obtain ⟨n, r, rfl, hn, hr, hb, hob, hj, rfl⟩ := hi
  apply pts_Each_1_loop0
  have ld : ∀ {g : AHeap} (hg : g.objs b = some (.row 23 [.int .u64 (r : Nat)])) (K : AV → Prop), pLoad none (.ptr b 0) g K = K (.int .u64 (r : Nat)) := fun hg K => by rw [pLoad_ptr hg]; simp [pCells]
  by_cases r0 : r = 0
  · subst r0
    rw [bits_zero] at hb
    have hnl : n = (bitsOf x).length := by have := congrArg List.length hb; simp at this; omega
    (repeat simp -dsimp -implicitDefEqProofs (disch := omega) only [↓rP, rQ, rO, rL, ↓reduceIte, Nat.reduceEqDiff, Nat.reduceAdd, Nat.reduceLeDiff, pBuild, fillA, ↓tyr, ld hob])
    left
    rw [← hnl]; exact hj
  have e0 : ((r : Int) != 0) = true := by simpa using r0
  have hcons := and_pred r0 hr
  have hlow := firstB_low r0 hr
  rw [hb] at hcons
  have hget : (bitsOf x)[n]? = some (firstB r) := by
    have := congrArg (fun l => l[0]?) hcons
    simpa [List.getElem?_drop] using this
  have hlt : n < (bitsOf x).length := (List.getElem?_eq_some_iff.1 hget).1
  have hb2 : bitsOf (r &&& (r - 1)) = (bitsOf x).drop (n + 1) := by
    have := congrArg List.tail hcons
    simpa [List.tail_drop] using this.symm
  (repeat simp -dsimp -implicitDefEqProofs (disch := omega) only [↓rP, rQ, rO, rL, ↓reduceIte, Nat.reduceEqDiff, Nat.reduceAdd, Nat.reduceLeDiff, pBuild, fillA, ↓tyr, ld hob, e0])
  refine CallsA.go (tz_does r hr _) ?_
  (repeat simp -dsimp -implicitDefEqProofs (disch := omega) only [↓rP, rQ, rO, rL, ↓reduceIte, Nat.reduceEqDiff, Nat.reduceAdd, Nat.reduceLeDiff, pBuild, fillA, ↓tyr])
  rw [pCallF_yld]
  refine YieldW.mono ?_ (hY n (firstB r) hh _ hget hj hob)
  rintro v h' (⟨rfl, ho', hj'⟩ | ⟨rfl, hj'⟩)
  · have es : IntKind.u64.wrap ((r : Int) - 1) = ((r - 1 : Nat) : Int) := by rw [wr_u64]; omega
    have ea : iAnd .u64 (r : Int) ((r - 1 : Nat) : Int) = ((r &&& (r - 1) : Nat) : Int) := iAnd_u64 _ _ hr (by omega)
    have st : ∀ (v : AV) (hv : v.leafy = true) (K : AHeap → Prop), pStore 1 (.ptr b 0) v h' K = K (h'.put b (.row 23 [v])) := fun v hv K => by rw [pStore_ptr ho' hv (by simp)]; rfl
    (repeat simp -dsimp -implicitDefEqProofs (disch := omega) only [↓rP, rQ, rO, rL, ↓reduceIte, Nat.reduceEqDiff, Nat.reduceAdd, Nat.reduceLeDiff, pBuild, fillA, ↓tyr, ld ho', es, ea])
    rw [st _ rfl]
    (repeat simp -dsimp -implicitDefEqProofs (disch := omega) only [↓rP, rQ, rO, rL, ↓reduceIte, Nat.reduceEqDiff, Nat.reduceAdd, Nat.reduceLeDiff, pBuild, fillA, ↓tyr])
    rw [loopPost_normal, hI]
    exact ⟨_, by omega, n + 1, r &&& (r - 1), rfl, hlt, pred_lt hr, hb2, by simp, hput _ _ _ hj', rfl⟩
  · (repeat simp -dsimp -implicitDefEqProofs (disch := omega) only [↓rP, rQ, rO, rL, ↓reduceIte, Nat.reduceEqDiff, Nat.reduceAdd, Nat.reduceLeDiff, pBuild, fillA, ↓tyr])
    right
    exact hj'
end Go.Proofs.YtopfjochppdnfaaDoor
end

section
/- What names may mean: sets in rows, the solver's variable, and what it adds. -/
set_option maxRecDepth 8000
set_option maxHeartbeats 1000000
namespace Go.Proofs.YtopfjochppdnfaaDoor
open Go.Abs
def rowC (f : Nat → Nat) (n : Nat) : List AV := (List.range n).map fun k => .int .u64 (f k : Nat)
theorem rowC_len (f : Nat → Nat) (n : Nat) : (rowC f n).length = n := by simp [rowC]
theorem rowC_at {f : Nat → Nat} {n k : Nat} (h : k < n) : (rowC f n)[k]? = some (.int .u64 (f k : Nat)) := by simp [rowC, h]
theorem rowC_set {f : Nat → Nat} {n k : Nat} (v : Nat) : (rowC f n).set k (.int .u64 (v : Nat)) = rowC (fun j => if j = k then v else f j) n := by
  apply List.ext_getElem?
  intro i
  by_cases hi : i < n
  · rw [List.getElem?_set, rowC_at hi, rowC_at hi, rowC_len]
    by_cases e : k = i
    · subst e; simp [hi]
    · rw [if_neg e, if_neg (fun h => e h.symm)]
  · rw [List.getElem?_eq_none (by rw [List.length_set, rowC_len]; omega), List.getElem?_eq_none (by rw [rowC_len]; omega)]
def RowAt (h : AHeap) (av : AV) (n : Nat) (f : Nat → Nat) : Prop := (av = .nils ∧ n = 0) ∨ ∃ id, av = .sl id 0 n 1 ∧ id < h.next ∧ h.objs id = some (.row 23 (rowC f n))
theorem RowAt.len {h : AHeap} {av : AV} {n : Nat} {f : Nat → Nat} (r : RowAt h av n f) (K : AV → Prop) : pLen .slice av K = K (.int .i64 n) := by
  rcases r with ⟨rfl, rfl⟩ | ⟨id, rfl, _, _⟩
  · rfl
  · rfl
structure SetsAt (h : AHeap) (c : Cd) (σ : Sg) (A : Rw → AV) : Prop where
  row : ∀ r, RowAt h (A r) (lenR c r) (σ r)
  one : ∀ r r' id, A r = .sl id 0 (lenR c r) 1 → A r' = .sl id 0 (lenR c r') 1 → r = r'
theorem SetsAt.ix {h : AHeap} {c : Cd} {σ : Sg} {A : Rw → AV} (s : SetsAt h c σ A) {r : Rw} {n : Nat} (hn : n < lenR c r) : ∃ id, A r = .sl id 0 (lenR c r) 1 ∧ id < h.next ∧ h.objs id = some (.row 23 (rowC (σ r) (lenR c r))) ∧
    (∀ (kk : IntKind) (K : AV → Prop), pIndexAddr (.slice 1) (A r) (.int kk (n : Int)) K = K (.ptr id n)) ∧ (∀ K : AV → Prop, pLoad none (.ptr id n) h K = K (.int .u64 (σ r n : Nat))) := by
  rcases s.row r with ⟨_, e⟩ | ⟨id, e, hid, ho⟩
  · omega
  · refine ⟨id, e, hid, ho, fun kk K => ?_, fun K => ?_⟩
    · rw [e]; simp [pIndexAddr]; omega
    · rw [pLoad_ptr ho]; simp [pCells, rowC_at hn]
theorem SetsAt.len {h : AHeap} {c : Cd} {σ : Sg} {A : Rw → AV} (s : SetsAt h c σ A) (r : Rw) (K : AV → Prop) : pLen .slice (A r) K = K (.int .i64 (lenR c r : Nat)) := (s.row r).len K
theorem SetsAt.keep {h h2 : AHeap} {c : Cd} {σ : Sg} {A : Rw → AV} {S : Nat → Prop} (s : SetsAt h c σ A) (k : Keeps h h2 S) (hS : ∀ r id, A r = .sl id 0 (lenR c r) 1 → ¬ S id) : SetsAt h2 c σ A := by
  refine ⟨fun r => ?_, s.one⟩
  rcases s.row r with e | ⟨id, e, hid, ho⟩
  · exact Or.inl e
  · exact Or.inr ⟨id, e, Nat.lt_of_lt_of_le hid k.next, by rw [k.objs id hid (hS r id e)]; exact ho⟩
def updS (σ : Sg) (r : Rw) (n v : Nat) : Sg := fun r' n' => if r' = r ∧ n' = n then v else σ r' n'
theorem SetsAt.put {h : AHeap} {c : Cd} {σ : Sg} {A : Rw → AV} (s : SetsAt h c σ A) {r : Rw} {n id v : Nat} (hn : n < lenR c r) (e : A r = .sl id 0 (lenR c r) 1) : SetsAt (h.put id (.row 23 (rowC (fun j => if j = n then v else σ r j) (lenR c r)))) c (updS σ r n v) A := by
  refine ⟨fun q => ?_, s.one⟩
  rcases s.row q with e2 | ⟨id2, e2, hid, ho⟩
  · exact Or.inl e2
  · refine Or.inr ⟨id2, e2, by simpa using hid, ?_⟩
    by_cases hq : q = r
    · subst hq
      rw [e] at e2
      cases e2
      rw [put_new]
      congr 3
      funext j
      simp [updS]
    · have hne : id2 ≠ id := by rintro rfl; exact hq (s.one q r id2 e2 e)
      rw [put_old hne, ho]
      congr 3
      funext j
      simp [updS, hq]
def outA (id n : Nat) (f : Nat → AV) : AV := if n = 0 then .nils else .gsl id 1 ((List.range n).map fun k => [f k])
theorem outA_ix {id n k : Nat} {f : Nat → AV} (hk : k < n) (kk : IntKind) (K : AV → Prop) : pIndexAddr (.slice 1) (outA id n f) (.int kk (k : Int)) K = K (.iptr [f k]) := by
  unfold outA
  rw [if_neg (by omega)]
  simp [pIndexAddr, hk]
theorem ld_one (x : AV) (h : AHeap) (K : AV → Prop) : pLoad none (.iptr [x]) h K = K x := by rw [pLoad_iptr]; rfl
def setsC (c : Cd) (A : Rw → AV) (i1 i2 : Nat) : List AV := [outA i1 (slL c.Threads).length (fun t => A (.s t)), A .g, outA i2 (slL c.Sites).length (fun k => A (.f k))]
theorem setsC_0 (c : Cd) (A : Rw → AV) (i1 i2 : Nat) (K : AV → Prop) : pCells none (setsC c A i1 i2) 0 K = K (outA i1 (slL c.Threads).length (fun t => A (.s t))) := by simp [pCells, setsC]
theorem setsC_1 (c : Cd) (A : Rw → AV) (i1 i2 : Nat) (K : AV → Prop) : pCells none (setsC c A i1 i2) 1 K = K (A .g) := by simp [pCells, setsC]
theorem setsC_2 (c : Cd) (A : Rw → AV) (i1 i2 : Nat) (K : AV → Prop) : pCells none (setsC c A i1 i2) 2 K = K (outA i2 (slL c.Sites).length (fun k => A (.f k))) := by simp [pCells, setsC]
theorem setsC_all (c : Cd) (A : Rw → AV) (i1 i2 : Nat) (K : AV → Prop) : pCells (some 3) (setsC c A i1 i2) 0 K = K (.agg (setsC c A i1 i2)) := by simp [pCells, setsC]
def solC (c : Cd) (A : Rw → AV) (i1 i2 : Nat) (gr : Bool) : List AV := c.cells ++ (setsC c A i1 i2 ++ [.bool gr])
section
variable (c : Cd) (A : Rw → AV) (i1 i2 : Nat) (gr : Bool) (K : AV → Prop)
theorem solC_0 : pCells none (solC c A i1 i2 gr) 0 K = K (slAV 1 (fun o => [slAV 3 Api_Local.cells o]) c.Records) := by simp [pCells, solC, setsC, Api_Code.cells]
theorem solC_1 : pCells none (solC c A i1 i2 gr) 1 K = K (slAV 3 Api_Local.cells c.Globals) := by simp [pCells, solC, setsC, Api_Code.cells]
theorem solC_2 : pCells none (solC c A i1 i2 gr) 2 K = K (slAV 3 Api_Body.cells c.Threads) := by simp [pCells, solC, setsC, Api_Code.cells]
theorem solC_3 : pCells none (solC c A i1 i2 gr) 3 K = K (slAV 3 Api_Site.cells c.Sites) := by simp [pCells, solC, setsC, Api_Code.cells]
theorem solC_5 : pCells none (solC c A i1 i2 gr) 5 K = K (outA i1 (slL c.Threads).length (fun t => A (.s t))) := by simp [pCells, solC, setsC, Api_Code.cells]
theorem solC_6 : pCells none (solC c A i1 i2 gr) 6 K = K (A .g) := by simp [pCells, solC, setsC, Api_Code.cells]
theorem solC_7 : pCells none (solC c A i1 i2 gr) 7 K = K (outA i2 (slL c.Sites).length (fun k => A (.f k))) := by simp [pCells, solC, setsC, Api_Code.cells]
theorem solC_8 : pCells none (solC c A i1 i2 gr) 8 K = K (.bool gr) := by simp [pCells, solC, setsC, Api_Code.cells]
theorem solC_sets : pCells (some 3) (solC c A i1 i2 gr) 5 K = K (.agg (setsC c A i1 i2)) := by simp [pCells, solC, setsC, Api_Code.cells]
end
theorem solC_len (c : Cd) (A : Rw → AV) (i1 i2 : Nat) (gr : Bool) : (solC c A i1 i2 gr).length = 9 := rfl
theorem solC_grew (c : Cd) (A : Rw → AV) (i1 i2 : Nat) (gr g2 : Bool) : (solC c A i1 i2 gr).set 8 (.bool g2) = solC c A i1 i2 g2 := rfl
theorem solR : (type_of% @solC_0) ∧ (type_of% @solC_1) ∧ (type_of% @solC_2) ∧ (type_of% @solC_3) ∧ (type_of% @solC_5) ∧ (type_of% @solC_6) ∧ (type_of% @solC_7) ∧ (type_of% @solC_8) ∧ (type_of% @solC_sets) ∧ (type_of% @setsC_0) ∧ (type_of% @setsC_1) ∧ (type_of% @setsC_2) ∧ (type_of% @setsC_all) ∧ (type_of% @ld_one) :=
  ⟨@solC_0, @solC_1, @solC_2, @solC_3, @solC_5, @solC_6, @solC_7, @solC_8, @solC_sets, @setsC_0, @setsC_1, @setsC_2, @setsC_all, @ld_one⟩
structure SolAt (h : AHeap) (sid : Nat) (c : Cd) (σ : Sg) (A : Rw → AV) (i1 i2 : Nat) (gr : Bool) : Prop where
  sets : SetsAt h c σ A
  obj : h.objs sid = some (.row 74 (solC c A i1 i2 gr))
  lt : sid < h.next
  ne : ∀ r, A r ≠ .sl sid 0 (lenR c r) 1
theorem SolAt.ld {h : AHeap} {sid : Nat} {c : Cd} {σ : Sg} {A : Rw → AV} {i1 i2 : Nat} {gr : Bool} (s : SolAt h sid c σ A i1 i2 gr) (off : Nat) (q : Option Nat) (K : AV → Prop) : pLoad q (.ptr sid off) h K = pCells q (solC c A i1 i2 gr) off K := pLoad_ptr s.obj q K
theorem SolAt.keep {h h2 : AHeap} {sid : Nat} {c : Cd} {σ : Sg} {A : Rw → AV} {i1 i2 : Nat} {gr : Bool} (s : SolAt h sid c σ A i1 i2 gr) (k : Keeps h h2 (fun _ => False)) : SolAt h2 sid c σ A i1 i2 gr :=
  ⟨s.sets.keep k (fun _ _ _ h => h), by rw [k.objs sid s.lt (fun h => h)]; exact s.obj, Nat.lt_of_lt_of_le s.lt k.next, s.ne⟩
def Own (sid : Nat) (c : Cd) (A : Rw → AV) : Nat → Prop := fun i => i = sid ∨ ∃ r, A r = .sl i 0 (lenR c r) 1
theorem means_does (l : Lo) (h : AHeap) : CallsA Tryd.prog 50 [.agg l.cells] h (fun v h2 => v = .bool (meansB l) ∧ h2 = h) := by
  apply pts_means_wp
  (repeat simp -dsimp -implicitDefEqProofs (disch := omega) only [↓rP, rQ, rO, rL, ↓reduceIte, Nat.reduceEqDiff, Nat.reduceAdd, Nat.reduceLeDiff, pBuild, fillA, ↓tyr])
  refine Split_eq (fun h1 => ?_) (fun h1 => ?_)
  · (repeat simp -dsimp -implicitDefEqProofs (disch := omega) only [↓rP, rQ, rO, rL, ↓reduceIte, Nat.reduceEqDiff, Nat.reduceAdd, Nat.reduceLeDiff, pBuild, fillA, ↓tyr])
    simp [meansB, h1]
  · (repeat simp -dsimp -implicitDefEqProofs (disch := omega) only [↓rP, rQ, rO, rL, ↓reduceIte, Nat.reduceEqDiff, Nat.reduceAdd, Nat.reduceLeDiff, pBuild, fillA, ↓tyr])
    simp [meansB, h1, beqI]
theorem add_does {h : AHeap} {sid : Nat} {c : Cd} {σ : Sg} {A : Rw → AV} {i1 i2 : Nat} {gr : Bool} (s : SolAt h sid c σ A i1 i2 gr) {r : Rw} {n id m : Nat} (hn : n < lenR c r) (e : A r = .sl id 0 (lenR c r) 1) (hs : σ r n < 18446744073709551616) (hm : m < 18446744073709551616) :
    CallsA Tryd.prog 51 [.ptr sid 0, .ptr id n, .int .u64 (m : Nat)] h (fun v h2 => v = .tup [] ∧ ∃ gr', (gr' = true ↔ gr = true ∨ updS σ r n (σ r n ||| m) ≠ σ) ∧ SolAt h2 sid c (updS σ r n (σ r n ||| m)) A i1 i2 gr' ∧ Keeps h h2 (Own sid c A)) := by
  obtain ⟨id2, e2, hid, ho, -, ld⟩ := s.sets.ix hn
  obtain rfl : id2 = id := by rw [e] at e2; cases e2; rfl
  have eo : iOr .u64 (σ r n : Int) (m : Int) = ((σ r n ||| m : Nat) : Int) := iOr_u64 _ _ hs hm
  have hne : id2 ≠ sid := fun h => s.ne r (by rw [← h]; exact e)
  apply pts_solver_add_wp
  (repeat simp -dsimp -implicitDefEqProofs (disch := omega) only [↓rP, rQ, rO, rL, ↓reduceIte, Nat.reduceEqDiff, Nat.reduceAdd, Nat.reduceLeDiff, pBuild, fillA, ↓tyr, ld, eo])
  refine Split_ne (fun hc => ?_) (fun hc => ?_)
  · have hc : ¬ (σ r n ||| m) = σ r n := by omega
    have st : ∀ K : AHeap → Prop, pStore 1 (.ptr id2 n) (.int .u64 ((σ r n ||| m : Nat) : Int)) h K = K (h.put id2 (.row 23 (rowC (fun j => if j = n then (σ r n ||| m) else σ r j) (lenR c r)))) := fun K => by
      rw [pStore_ptr ho (by rfl) (by rw [rowC_len]; exact hn), rowC_set]
    (repeat simp -dsimp -implicitDefEqProofs (disch := omega) only [↓rP, rQ, rO, rL, ↓reduceIte, Nat.reduceEqDiff, Nat.reduceAdd, Nat.reduceLeDiff, pBuild, fillA, ↓tyr, ld, eo, st])
    have ob : (h.put id2 (.row 23 (rowC (fun j => if j = n then (σ r n ||| m) else σ r j) (lenR c r)))).objs sid = some (.row 74 (solC c A i1 i2 gr)) := by rw [put_old (Ne.symm hne)]; exact s.obj
    rw [pStore_ptr ob (by rfl) (by rw [solC_len]; decide), solC_grew]
    (repeat simp -dsimp -implicitDefEqProofs (disch := omega) only [↓rP, rQ, rO, rL, ↓reduceIte, Nat.reduceEqDiff, Nat.reduceAdd, Nat.reduceLeDiff, pBuild, fillA, ↓tyr])
    refine ⟨true, ⟨fun _ => Or.inr fun h => hc ?_, fun _ => rfl⟩, ⟨?_, put_new _ _ _, s.lt, s.ne⟩, ?_⟩
    · have := congrFun (congrFun h r) n
      simpa [updS] using this
    · refine ((s.sets.put (v := (σ r n ||| m)) hn e).keep (S := fun i => i = sid) ⟨by simp, fun j hj hs => put_old hs _⟩ fun q id3 h3 h4 => ?_)
      subst h4; exact s.ne q h3
    · exact ⟨by simp, fun j hj hs => by rw [put_old (fun h => hs (Or.inl h)), put_old (fun h => hs (Or.inr ⟨r, by rw [h]; exact e⟩))]⟩
  · have hc : (σ r n ||| m) = σ r n := by omega
    (repeat simp -dsimp -implicitDefEqProofs (disch := omega) only [↓rP, rQ, rO, rL, ↓reduceIte, Nat.reduceEqDiff, Nat.reduceAdd, Nat.reduceLeDiff, pBuild, fillA, ↓tyr])
    have hu : updS σ r n (σ r n ||| m) = σ := by
      funext q j
      unfold updS
      split
      · rename_i hq; rw [hq.1, hq.2, hc]
      · rfl
    rw [hu]
    exact ⟨gr, by simp, s, .refl _ _⟩
end Go.Proofs.YtopfjochppdnfaaDoor
end

section
/- A loop over the bits of a set; what items may mean, by the program. -/
set_option maxRecDepth 8000
set_option maxHeartbeats 1000000
namespace Go.Proofs.YtopfjochppdnfaaDoor
open Go.Abs
def Alike (i j : Nat) (h h2 : AHeap) : Prop := h.next ≤ h2.next ∧ ∀ k, k ≠ i → k ≠ j → h2.objs k = h.objs k
theorem range_each {N g p b x : Nat} {asn bd : Code} {fr : Fr} {h : AHeap} {Q : AExit → Fr → AHeap → Prop} (hx : x < 18446744073709551616) (hg : aEv fr (.tmp g) = .fn (.func 58) [] [.ptr b 0]) (ho : h.objs b = some (.row 23 [.int .u64 x])) (hb : b < h.next)
    (hp : Nat.blt p N = true) (hna : noRF asn = true) (hnb : noRF bd = true) (fr1 : Nat → Fr) (J : Nat → AHeap → Prop) (h0 : J 0 h) (hJ : ∀ n hh h2, J n hh → Alike b h.next hh h2 → J n h2)
    (hA : ∀ (k : Nat) hh, WP Tryd.prog N asn (setPs [p] [.int .i64 (k : Nat)] fr) hh (fun e f h' => e = .normal ∧ f = fr1 k ∧ h' = hh))
    (hB : ∀ (n k : Nat) hh, (bitsOf x)[n]? = some k → J n hh → h.next < hh.next → WP Tryd.prog N bd (fr1 k) hh (fun e f h2 => e = .normal ∧ J (n + 1) h2 ∧ hh.next ≤ h2.next ∧ h2.objs b = hh.objs b ∧ h2.objs h.next = hh.objs h.next))
    (hQ : ∀ hh, J (bitsOf x).length hh → Q .normal fr hh) : WP Tryd.prog N (.rangeFunc (.tmp g) #[p] asn bd) fr h Q := by
  refine WP_rangeA Tryd.call58 (gf := 58) (cap := [.ptr b 0]) hg ?_
  obtain ⟨lp, hlp⟩ : ∃ lp : LoopState → Option Code → AObj, lp = fun st pe => .loop st pe N #[p] asn bd fr := ⟨_, rfl⟩
  have hlo : ∀ st pe, (AObj.loop st pe N #[p] asn bd fr) = lp st pe := fun st pe => by rw [hlp]
  rw [hlo]
  refine (each1_does hx (fun n hh => J n hh ∧ h.next < hh.next ∧ hh.objs h.next = some (lp .ready none)) (fun _ => False) _ (by rw [push_old hb]; exact ho) ?_ ?_ ?_).mono ?_
  · refine ⟨hJ 0 h _ h0 ⟨Nat.le_succ _, fun k h1 h2 => ?_⟩, Nat.lt_succ_self _, push_new _ _⟩
    simp only [AHeap.push_objs]; rw [if_neg h2]
  · rintro n hh o ⟨j1, j2, j3⟩
    refine ⟨hJ n hh _ j1 ⟨Nat.le_refl _, fun k h1 h2 => put_old h1 _⟩, j2, ?_⟩
    rw [put_old (by omega)]; exact j3
  · rintro n k hh o hk ⟨j1, j2, j3⟩ hob
    rw [hlp] at j3
    refine YieldW.go (fr1 := fr1 k) j3 (by rfl) (by simpa using hp) hna hnb (hA k hh) ?_
    obtain ⟨G, hG⟩ : ∃ G : AHeap, G = hh.put h.next (.loop .busy none N #[p] asn bd fr) := ⟨_, rfl⟩
    rw [← hG]
    have gJ : J n G := hJ n hh G j1 (by rw [hG]; exact ⟨Nat.le_refl _, fun k h1 h2 => put_old h2 _⟩)
    refine (hB n k G hk gJ (by rw [hG]; exact j2)).mono ?_
    rintro e f h2 ⟨rfl, q1, q2, q3, q4⟩
    refine ⟨by rw [q4, hG, put_new], Or.inl ⟨rfl, ?_, ?_, ?_, ?_⟩⟩
    · rw [put_old (by omega), q3, hG, put_old (by omega)]; exact hob
    · exact hJ _ h2 _ q1 ⟨Nat.le_refl _, fun k h1 h3 => put_old h3 _⟩
    · have : hh.next = G.next := by rw [hG]; rfl
      have e2 : (h2.put h.next (AObj.loop .ready none N #[p] asn bd fr)).next = h2.next := rfl
      rw [e2]; omega
    · rw [put_new, hlp]
  · rintro v h' (⟨j1, j2, j3⟩ | hj)
    · rw [hlp] at j3
      refine ⟨.ready, none, j3, by simp, ?_⟩
      simp only [rangePostA]
      exact hQ _ (hJ _ h' _ j1 ⟨Nat.le_refl _, fun k h1 h2 => kill_old h2⟩)
    · exact hj.elim
theorem uses_small {l : List It} {m : Nat} (hm : m ≤ 1000) (hl : ∀ y ∈ l, y.Op = 2 → y.N < m) : ∀ k ∈ usesL l, ∃ n : Nat, k = n ∧ n < m := by
  induction l with
  | nil => intro k hk; cases hk
  | cons x l ih =>
    intro k hk
    simp only [usesL] at hk
    have ih := ih (fun y hy => hl y (List.mem_cons_of_mem _ hy))
    split at hk
    · rename_i h2
      rcases List.mem_cons.1 hk with rfl | hk
      · have := hl x (by simp) h2
        exact ⟨x.N, wrapI (by omega) (by omega), this⟩
      · exact ih k hk
    · exact ih k hk
theorem uses_or {σ : Sg} {t : Nat} {l : List It} {m : Nat} (hm : m ≤ 1000) (hl : ∀ y ∈ l, y.Op = 2 → y.N < m) : orF (fun k : Int => σ (.s t) k.toNat) (usesL l) = itemsN σ t l := by
  unfold itemsN
  induction l with
  | nil => rfl
  | cons x l ih =>
    have ih := ih (fun y hy => hl y (List.mem_cons_of_mem _ hy))
    rw [orF_cons, ← ih]
    simp only [usesL]
    by_cases h2 : x.Op = 2
    · have := hl x (by simp) h2
      have hw : IntKind.i64.wrap (x.N : Int) = x.N := wrapI (by omega) (by omega)
      rw [if_pos h2, if_pos h2, orF_cons, hw]
      simp
    · rw [if_neg h2, if_neg h2]; simp
theorem orF_take {α : Type} {f : α → Nat} {l : List α} {k : Nat} {x : α} (hx : l[k]? = some x) : orF f (l.take (k + 1)) = orF f (l.take k) ||| f x := by
  rw [List.take_add_one, hx]; exact orF_snoc _ _ _
theorem lenR_s {c : Cd} {t : Nat} {b : Bd} (hb : (slL c.Threads)[t]? = some b) : lenR c (.s t) = (slL b.Slots).length := by simp [lenR, slotsL, hb]
theorem orF_lt {α : Type} {f : α → Nat} {l : List α} {n : Nat} (h : ∀ x ∈ l, ∀ i, (f x).testBit i = true → i < n) : orF f l < 2 ^ n := lt_of_bits fun i hi => by
  rw [orF_bit] at hi
  obtain ⟨x, hx, hb⟩ := hi
  exact h x hx i hb
theorem from_does {h : AHeap} {sid : Nat} {c : Cd} {σ : Sg} {A : Rw → AV} {i1 i2 : Nat} {gr : Bool} (s : SolAt h sid c σ A i1 i2 gr) (wc : WfC c) (bd : Bd2 c σ) {t : Nat} {b : Bd} (hb : (slL c.Threads)[t]? = some b) (items : Option (List It)) (hok : okSl Api_Item.ok items)
    (hin : ∀ y ∈ slL items, y.Op = 2 → y.N < (slL b.Slots).length) (hlen : (slL items).length ≤ 64) :
    CallsA Tryd.prog 65 [.ptr sid 0, .int .i64 t, slAV 3 Api_Item.cells items] h (fun v h2 => v = .int .u64 (itemsN σ t (slL items) : Nat) ∧ h2 = h) := by
  refine CallsA.forget (by simp [idsIn]) ?_
  have hsl := (wc.slo t b hb).1
  have p32 := pow_small wc.sit
  apply pts_solver_from_wp
  refine (calc_Uses_does items hok (by omega) h).mono ?_
  rintro v H ⟨⟨id, rfl⟩, kp⟩
  have S := s.keep kp
  have hlu := usesL_len (slL items)
  have hsm := uses_small (m := (slL b.Slots).length) (by omega) hin
  have hor := uses_or (σ := σ) (t := t) (m := (slL b.Slots).length) (by omega) hin
  generalize usesL (slL items) = us at *
  (repeat simp -dsimp -implicitDefEqProofs (disch := omega) only [↓rP, rQ, rO, rL, ↓reduceIte, Nat.reduceEqDiff, Nat.reduceAdd, Nat.reduceLeDiff, pBuild, fillA, ↓tyr, gsI_len])
  obtain ⟨I, hI⟩ : ∃ I : Nat → Fr → AHeap → Prop, I = (fun n fr hh => ∃ k : Nat, n = us.length - k ∧ k ≤ us.length ∧ hh = H ∧ fr = frOf [(0, .ptr sid 0), (1, .int .i64 t), (7, .int .u64 (orF (fun k : Int => σ (.s t) k.toNat) (us.take k) : Nat)), (11, gsI id us), (12, .int .i64 us.length), (13, .int .i64 k)]) := ⟨_, rfl⟩
  refine WP_loop mixed_ (by kernel_rfl) I us.length (by rw [hI]; exact ⟨0, rfl, Nat.zero_le _, rfl, by simp [orF]⟩) ?_
  intro n fr hh hi
  rw [hI] at hi
  obtain ⟨k, rfl, hk, rfl, rfl⟩ := hi
  apply pts_solver_from_loop3
  (repeat simp -dsimp -implicitDefEqProofs (disch := omega) only [↓rP, rQ, rO, rL, ↓reduceIte, Nat.reduceEqDiff, Nat.reduceAdd, Nat.reduceLeDiff, pBuild, fillA, ↓tyr])
  refine Split_lt (fun hkl => ?_) (fun hkl => ?_)
  · obtain ⟨v, hv⟩ : ∃ v, us[k]? = some v := ⟨_, List.getElem?_eq_getElem (by omega)⟩
    obtain ⟨n, rfl, hn⟩ := hsm v (List.mem_of_getElem? hv)
    have hnl : n < lenR c (.s t) := by rw [lenR_s hb]; exact hn
    obtain ⟨rid, e1, e2, e3, ix, ld⟩ := S.sets.ix hnl
    have htl : t < (slL c.Threads).length := (List.getElem?_eq_some_iff.1 hb).1
    have eo : iOr .u64 ((orF (fun k : Int => σ (.s t) k.toNat) (us.take k) : Nat) : Int) ((σ (.s t) n : Nat) : Int) = ((orF (fun k : Int => σ (.s t) k.toNat) (us.take k) ||| σ (.s t) n : Nat) : Int) := by
      refine iOr_u64 _ _ ?_ ?_
      · have := orF_lt (f := fun k : Int => σ (.s t) k.toNat) (l := us.take k) (n := (slL c.Sites).length) (fun x _ i hi => bd _ _ _ hi); omega
      · have := bd.lt (.s t) n; omega
    (repeat simp -dsimp -implicitDefEqProofs (disch := omega) only [↓rP, rQ, rO, rL, ↓reduceIte, Nat.reduceEqDiff, Nat.reduceAdd, Nat.reduceLeDiff, pBuild, fillA, ↓tyr, gsI_at hv, S.ld, solR, outA_ix htl, ix, ld, eo, wkS k (by omega)])
    rw [loopPost_normal, hI]
    exact ⟨_, by omega, k + 1, rfl, by omega, rfl, by rw [orF_take hv]; simp⟩
  · (repeat simp -dsimp -implicitDefEqProofs (disch := omega) only [↓rP, rQ, rO, rL, ↓reduceIte, Nat.reduceEqDiff, Nat.reduceAdd, Nat.reduceLeDiff, pBuild, fillA, ↓tyr])
    have : k = us.length := by omega
    subst this
    rw [List.take_length, hor]
    exact ⟨rfl, kp⟩
end Go.Proofs.YtopfjochppdnfaaDoor
end

section
/- What an instruction loads, by the program. -/
set_option maxRecDepth 8000
set_option maxHeartbeats 1000000
namespace Go.Proofs.YtopfjochppdnfaaDoor
open Go.Abs
theorem shl_one {ck : CmpK} {kk : IntKind} {n : Nat} (hn : n < 64) : binA ck .shl (.int .u64 1) (.int kk (n : Int)) = some (.int .u64 ((2 ^ n : Nat) : Int)) := by
  have h := iShl_u64 1 n hn
  have h1 : ((1 : Nat) : Int) = 1 := rfl
  rw [h1] at h
  rw [binA_shl, if_neg (by omega), h, Nat.one_mul, Nat.mod_eq_of_lt]
  exact Nat.pow_lt_pow_right (by decide) hn
theorem btw_nat {n : Int} {m : Nat} (h : btw n m = true) : ∃ k : Nat, n = k ∧ k < m := by
  simp only [btw, Bool.and_eq_true, decide_eq_true_eq] at h
  exact ⟨n.toNat, by omega, by omega⟩
theorem lenR_f {c : Cd} {k : Nat} (hk : ¬ k < (slL c.Sites).length) : lenR c (.f k) = 0 := by
  simp only [lenR]; rw [List.getElem?_eq_none (by omega)]
theorem alike_keeps {i j : Nat} {h hh h2 : AHeap} (k : Keeps h hh (fun _ => False)) (a : Alike i j hh h2) (hi : h.next ≤ i) (hj : h.next ≤ j) : Keeps h h2 (fun _ => False) :=
  ⟨Nat.le_trans k.next a.1, fun y hy hs => by rw [a.2 y (by omega) (by omega)]; exact k.objs y hy hs⟩
theorem load_fields {h h0 : AHeap} {sid : Nat} {c : Cd} {σ : Sg} {A : Rw → AV} {i1 i2 : Nat} {gr : Bool} (s : SolAt h sid c σ A i1 i2 gr) (wc : WfC c) (bd : Bd2 c σ) {t : Nat} {x : In} {N : Nat} (e3 : x.Op = 3) (hN : x.N = N)
    {y o : Nat} (hy : y = σ (.s t) x.Src.toNat) (ho : o = h.next) (hh0 : h0 = (h.push (.row 23 [.int .u64 0])).push (.row 23 [.int .u64 (y : Nat)])) (Q : AExit → Fr → AHeap → Prop)
    (hQ : ∀ hh fr, Keeps h hh (fun _ => False) → hh.objs h.next = some (.row 23 [.int .u64 (fieldsN c σ t x : Nat)]) → fr 7 = .ptr o 0 → Q .normal fr hh) :
    WP Tryd.prog 81 (.rangeFunc (.tmp 47) #[48] c_pts_solver_load_11 c_pts_solver_load_12) (frOf [(3, .iptr [.ptr sid 0]), (5, .iptr x.cells), (6, .int .u64 0), (7, .ptr o 0), (47, .fn (Fn.func 58) [] [.ptr (o + 1) 0])]) h0 Q := by
  subst ho
  have p32 := pow_small wc.sit
  have hyl : y < 18446744073709551616 := by have := bd.lt (.s t) x.Src.toNat; rw [hy]; omega
  obtain ⟨F, hF⟩ : ∃ F : Nat → Nat, F = fun k => if x.N < lenR c (.f k) then σ (.f k) x.N.toNat else 0 := ⟨_, rfl⟩
  have hFf : fieldsN c σ t x = orF F (bitsOf y) := by rw [hF, hy]; rfl
  have hFl : ∀ l, orF F l < 18446744073709551616 := fun l => by
    have := orF_lt (f := F) (l := l) (n := (slL c.Sites).length) (fun k _ i hi => by
      rw [hF] at hi
      simp only at hi
      split at hi
      · exact bd _ _ _ hi
      · simp at hi)
    omega
  have n0 : h0.next = h.next + 2 := by rw [hh0]; rfl
  refine range_each (h := h0) (b := h.next + 1) (x := y) hyl (by rfl) (by rw [hh0]; simp) (by omega) (by rfl) (by kernel_rfl) (by kernel_rfl)
    (fun k => frOf [(3, .iptr [.ptr sid 0]), (5, .iptr x.cells), (7, .ptr h.next 0), (8, .int .i64 (k : Nat))])
    (fun n hh => hh.objs h.next = some (.row 23 [.int .u64 (orF F ((bitsOf y).take n) : Nat)]) ∧ Keeps h hh (fun _ => False) ∧ h.next + 2 ≤ hh.next) ?_ ?_ ?_ ?_ ?_
  · refine ⟨?_, ?_, by omega⟩
    · rw [hh0, push_old (by simp)]; simp [orF]
    · rw [hh0]; exact (Keeps.one _ _).go (Keeps.one _ _)
  · rintro n hh h2 ⟨j1, j2, j3⟩ al
    refine ⟨by rw [al.2 _ (by omega) (by omega)]; exact j1, alike_keeps j2 al (by omega) (by omega), by have := al.1; omega⟩
  · intro k hh
    show WP _ _ _ (setPs [48] [.int .i64 (k : Nat)] (frOf _)) _ _
    simp only [setPs, upd_frOf]
    refine WP.restr [3, 5, 7, 48] ?_
    apply pts_solver_load_loop11
    exact ⟨rfl, rfl, rfl⟩
  · rintro n k hh hk ⟨j1, j2, j3⟩ hL
    have S := s.keep j2
    have hkm := mem_bits.1 (List.mem_of_getElem? hk)
    have hks : k < (slL c.Sites).length := bd _ _ _ (by rw [← hy]; exact hkm.2)
    have ld : ∀ K : AV → Prop, pLoad none (.ptr h.next 0) hh K = K (.int .u64 (orF F ((bitsOf y).take n) : Nat)) := fun K => by rw [pLoad_ptr j1]; simp [pCells]
    have eN : ((N : Int)).toNat = N := by simp
    apply pts_solver_load_loop12
    (repeat simp -dsimp -implicitDefEqProofs (disch := omega) only [↓rP, rQ, rO, rL, ↓reduceIte, Nat.reduceEqDiff, Nat.reduceAdd, Nat.reduceLeDiff, pBuild, fillA, ↓tyr, e3, hN, Int.reduceBEq, S.ld, solR, outA_ix hks, S.sets.len])
    by_cases hl : N < lenR c (.f k)
    · have hFk : F k = σ (.f k) N := by rw [hF]; simp only; rw [hN, if_pos (by omega)]; simp
      obtain ⟨rid, q1, q2, q3, ix, ldr⟩ := S.sets.ix hl
      have d : decide ((N : Int) < (lenR c (.f k) : Int)) = true := decide_eq_true (by omega)
      have eo : iOr .u64 ((orF F ((bitsOf y).take n) : Nat) : Int) ((σ (.f k) N : Nat) : Int) = ((orF F ((bitsOf y).take n) ||| σ (.f k) N : Nat) : Int) := iOr_u64 _ _ (hFl _) (by have := bd.lt (.f k) N; omega)
      have st : ∀ (v : AV) (hv : v.leafy = true) (K : AHeap → Prop), pStore 1 (.ptr h.next 0) v hh K = K (hh.put h.next (.row 23 [v])) := fun v hv K => by rw [pStore_ptr j1 hv (by simp)]; rfl
      (repeat simp -dsimp -implicitDefEqProofs (disch := omega) only [↓rP, rQ, rO, rL, ↓reduceIte, Nat.reduceEqDiff, Nat.reduceAdd, Nat.reduceLeDiff, pBuild, fillA, ↓tyr, d, hN, S.ld, solR, outA_ix hks, ix, ldr, ld, eo])
      rw [st _ rfl]
      (repeat simp -dsimp -implicitDefEqProofs (disch := omega) only [↓rP, rQ, rO, rL, ↓reduceIte, Nat.reduceEqDiff, Nat.reduceAdd, Nat.reduceLeDiff, pBuild, fillA, ↓tyr])
      refine ⟨⟨?_, j2.putNew (Nat.le_refl _) _, by simpa using j3⟩, Nat.le_refl _, put_old (by omega) _, put_old (by omega) _⟩
      rw [put_new, orF_take hk, hFk]
    · have hFk : F k = 0 := by rw [hF]; simp only; rw [hN, if_neg (by omega)]
      have d : decide ((N : Int) < (lenR c (.f k) : Int)) = false := decide_eq_false (by omega)
      (repeat simp -dsimp -implicitDefEqProofs (disch := omega) only [↓rP, rQ, rO, rL, ↓reduceIte, Nat.reduceEqDiff, Nat.reduceAdd, Nat.reduceLeDiff, pBuild, fillA, ↓tyr, d])
      exact ⟨by rw [orF_take hk, hFk, Nat.or_zero]; exact j1, j2, j3⟩
  · rintro hh ⟨j1, j2, j3⟩
    rw [List.take_length, ← hFf] at j1
    exact hQ hh _ j2 j1 rfl
theorem load_does {h : AHeap} {sid : Nat} {c : Cd} {σ : Sg} {A : Rw → AV} {i1 i2 : Nat} {gr : Bool} (s : SolAt h sid c σ A i1 i2 gr) (wc : WfC c) (bd : Bd2 c σ) {t : Nat} {b : Bd} {x : In} (hb : (slL c.Threads)[t]? = some b) (w : Wf c b x) (hok : okSl Api_Item.ok x.Items)
    (hop : x.Op = 1 ∨ x.Op = 2 ∨ x.Op = 3 ∨ x.Op = 8 ∨ x.Op = 9) :
    CallsA Tryd.prog 52 [.ptr sid 0, .int .i64 t, .agg x.cells] h (fun v h2 => v = .int .u64 (bringsN c σ t x : Nat) ∧ h2 = h) := by
  refine CallsA.forget (by simp [idsIn]) ?_
  have htl : t < (slL c.Threads).length := (List.getElem?_eq_some_iff.1 hb).1
  have p32 := pow_small wc.sit
  have h32 := wc.sit
  apply pts_solver_load_wp
  rcases hop with e | e | e | e | e
  · obtain ⟨w1, w2⟩ := w.items (Or.inl e)
    (repeat simp -dsimp -implicitDefEqProofs (disch := omega) only [↓rP, rQ, rO, rL, ↓reduceIte, Nat.reduceEqDiff, Nat.reduceAdd, Nat.reduceLeDiff, pBuild, fillA, ↓tyr, e, Int.reduceBEq])
    refine CallsA.go (from_does s wc bd hb x.Items hok w1 w2) ?_
    have hbr : bringsN c σ t x = itemsN σ t (slL x.Items) := by unfold bringsN; rw [if_pos e]
    rw [hbr]
    (repeat simp -dsimp -implicitDefEqProofs (disch := omega) only [↓rP, rQ, rO, rL, ↓reduceIte, Nat.reduceEqDiff, Nat.reduceAdd, Nat.reduceLeDiff, pBuild, fillA, ↓tyr])
    exact .refl _ _
  · obtain ⟨n, hn, hl⟩ := btw_nat (w.glob (Or.inl e))
    obtain ⟨rid, q1, q2, q3, ix, ld⟩ := s.sets.ix (r := .g) hl
    have hbr : bringsN c σ t x = σ .g n := by unfold bringsN; rw [if_neg (by omega), if_pos e, hn]; rfl
    rw [hbr]
    (repeat simp -dsimp -implicitDefEqProofs (disch := omega) only [↓rP, rQ, rO, rL, ↓reduceIte, Nat.reduceEqDiff, Nat.reduceAdd, Nat.reduceLeDiff, pBuild, fillA, ↓tyr, e, hn, Int.reduceBEq, s.ld, solR, ix, ld])
    exact .refl _ _
  · obtain ⟨rr, hr, hN, hS⟩ := w.fld (Or.inl e)
    obtain ⟨N, eN, hNl⟩ := btw_nat hN
    obtain ⟨m, em, hm⟩ := btw_nat hS
    have hml : m < lenR c (.s t) := by rw [lenR_s hb]; exact hm
    obtain ⟨rid, q1, q2, q3, ix, ld⟩ := s.sets.ix hml
    have S1 := s.keep (Keeps.one h (.row 23 [.int .u64 0]))
    have ld1 : ∀ K : AV → Prop, pLoad none (.ptr rid m) (h.push (.row 23 [.int .u64 0])) K = K (.int .u64 (σ (.s t) m : Nat)) := fun K => by
      rw [← ld K, pLoad_ptr q3, pLoad_ptr (by rw [push_old q2]; exact q3)]
    (repeat simp -dsimp -implicitDefEqProofs (disch := omega) only [↓rP, rQ, rO, rL, ↓reduceIte, Nat.reduceEqDiff, Nat.reduceAdd, Nat.reduceLeDiff, pBuild, fillA, ↓tyr, e, Int.reduceBEq])
    rw [pStore_one (by rfl)]
    (repeat simp -dsimp -implicitDefEqProofs (disch := omega) only [↓rP, rQ, rO, rL, ↓reduceIte, Nat.reduceEqDiff, Nat.reduceAdd, Nat.reduceLeDiff, pBuild, fillA, ↓tyr, em, S1.ld, solR, outA_ix htl, ix, ld1])
    refine (each_does _ _).mono ?_
    rintro _ _ ⟨rfl, rfl⟩
    (repeat simp -dsimp -implicitDefEqProofs (disch := omega) only [↓rP, rQ, rO, rL, ↓reduceIte, Nat.reduceEqDiff, Nat.reduceAdd, Nat.reduceLeDiff, pBuild, fillA, ↓tyr])
    refine load_fields (h0 := (h.push (.row 23 [.int .u64 0])).push (.row 23 [.int .u64 (σ (.s t) m : Nat)])) (y := σ (.s t) m) s wc bd e eN (by rw [em]; rfl) rfl rfl _ ?_
    intro hh fr k1 k2 k3
    have ld2 : ∀ K : AV → Prop, pLoad none (.ptr h.next 0) hh K = K (.int .u64 (fieldsN c σ t x : Nat)) := fun K => by rw [pLoad_ptr k2]; simp [pCells]
    have hbr : bringsN c σ t x = fieldsN c σ t x := by unfold bringsN; rw [if_neg (by omega), if_neg (by omega), if_neg (by omega), if_pos e]
    rw [hbr]
    (repeat simp -dsimp -implicitDefEqProofs (disch := omega) only [↓rP, rQ, rO, rL, ↓reduceIte, Nat.reduceEqDiff, Nat.reduceAdd, Nat.reduceLeDiff, pBuild, fillA, ↓tyr, k3, ld2])
    exact k1
  · obtain ⟨n, hn, hl⟩ := btw_nat (w.site (Or.inl e))
    have hbr : bringsN c σ t x = 2 ^ n := by unfold bringsN; rw [if_neg (by omega), if_neg (by omega), if_pos (Or.inl e), hn]; rfl
    rw [hbr]
    (repeat simp -dsimp -implicitDefEqProofs (disch := omega) only [↓rP, rQ, rO, rL, ↓reduceIte, Nat.reduceEqDiff, Nat.reduceAdd, Nat.reduceLeDiff, pBuild, fillA, ↓tyr, e, hn, Int.reduceBEq, shl_one (show n < 64 by omega)])
    exact .refl _ _
  · obtain ⟨n, hn, hl⟩ := btw_nat (w.site (Or.inr e))
    have hbr : bringsN c σ t x = 2 ^ n := by unfold bringsN; rw [if_neg (by omega), if_neg (by omega), if_pos (Or.inr e), hn]; rfl
    rw [hbr]
    (repeat simp -dsimp -implicitDefEqProofs (disch := omega) only [↓rP, rQ, rO, rL, ↓reduceIte, Nat.reduceEqDiff, Nat.reduceAdd, Nat.reduceLeDiff, pBuild, fillA, ↓tyr, e, hn, Int.reduceBEq, shl_one (show n < 64 by omega)])
    exact .refl _ _
end Go.Proofs.YtopfjochppdnfaaDoor
end

section
/- What an instruction stores, and a step, by the program. -/
set_option maxRecDepth 8000
set_option maxHeartbeats 1000000
namespace Go.Proofs.YtopfjochppdnfaaDoor
open Go.Abs
theorem SetsAt.old {h : AHeap} {c : Cd} {σ : Sg} {A : Rw → AV} (s : SetsAt h c σ A) {r : Rw} {id : Nat} (e : A r = .sl id 0 (lenR c r) 1) : id < h.next := by
  rcases s.row r with ⟨e2, _⟩ | ⟨id2, e2, hid, _⟩
  · rw [e] at e2; cases e2
  · rw [e] at e2; cases e2; exact hid
theorem SolAt.alike {h hh h2 : AHeap} {sid : Nat} {c : Cd} {σ τ : Sg} {A : Rw → AV} {i1 i2 : Nat} {gr g2 : Bool} (s : SolAt h sid c σ A i1 i2 gr) {i j : Nat} (S : SolAt hh sid c τ A i1 i2 g2) (al : Alike i j hh h2) (hi : h.next ≤ i) (hj : h.next ≤ j) : SolAt h2 sid c τ A i1 i2 g2 := by
  have hs := s.lt
  refine ⟨S.sets.keep (S := fun k => k = i ∨ k = j) ⟨al.1, fun k _ hk => al.2 k (fun h => hk (Or.inl h)) (fun h => hk (Or.inr h))⟩ ?_, ?_, Nat.lt_of_lt_of_le S.lt al.1, S.ne⟩
  · intro r id e
    have := s.sets.old e
    rintro (h | h) <;> omega
  · rw [al.2 sid (by omega) (by omega)]; exact S.obj
theorem Own.lt {h : AHeap} {sid : Nat} {c : Cd} {σ : Sg} {A : Rw → AV} {i1 i2 : Nat} {gr : Bool} (s : SolAt h sid c σ A i1 i2 gr) {i : Nat} (o : Own sid c A i) : i < h.next := by
  rcases o with rfl | ⟨r, e⟩
  · exact s.lt
  · exact s.sets.old e
theorem grew_trans {σ τ ρ : Sg} (h1 : Le σ τ) (h2 : Le τ ρ) : (τ ≠ σ ∨ ρ ≠ τ) ↔ ρ ≠ σ := by
  constructor
  · rintro h rfl
    have : τ = ρ := Le.anti h2 h1
    subst this
    simp at h
  · intro h
    by_cases e : τ = σ
    · right; rw [e]; exact h
    · left; exact e
def partF (c : Cd) (rec : Int) (N m : Nat) (L : List Nat) (σ : Sg) : Sg := fun r j =>
  match r with
  | .f k => if k ∈ L ∧ siteRec c k rec = true ∧ j = N then σ (.f k) j ||| m else σ (.f k) j
  | r => σ r j
theorem partF_nil (c : Cd) (rec : Int) (N m : Nat) (σ : Sg) : partF c rec N m [] σ = σ := by
  funext r j
  cases r <;> simp [partF]
theorem partF_yes {c : Cd} {rec : Int} {N m : Nat} {L : List Nat} {σ : Sg} {k : Nat} (h : siteRec c k rec = true) : partF c rec N m (L ++ [k]) σ = updS (partF c rec N m L σ) (.f k) N (partF c rec N m L σ (.f k) N ||| m) := by
  funext r j
  unfold updS
  cases r with
  | f i =>
    simp only [partF, List.mem_append, List.mem_singleton]
    by_cases hi : i = k
    · subst hi
      by_cases hj : j = N
      · subst hj
        simp only [h, or_true, and_self, if_true]
        by_cases hL : i ∈ L
        · simp [hL, Nat.or_assoc]
        · simp [hL]
      · simp [hj]
    · simp [hi]
  | g => simp [partF]
  | s t => simp [partF]
theorem partF_no {c : Cd} {rec : Int} {N m : Nat} {L : List Nat} {σ : Sg} {k : Nat} (h : siteRec c k rec = false) : partF c rec N m (L ++ [k]) σ = partF c rec N m L σ := by
  funext r j
  cases r with
  | f i =>
    simp only [partF, List.mem_append, List.mem_singleton]
    by_cases hi : i = k
    · subst hi; simp [h]
    · simp [hi]
  | g => simp [partF]
  | s t => simp [partF]
theorem partF_le (c : Cd) (rec : Int) (N m : Nat) (L : List Nat) (σ : Sg) : Le σ (partF c rec N m L σ) := by
  intro r n i h
  cases r with
  | f k =>
    simp only [partF]
    split
    · rw [Nat.testBit_or, h]; rfl
    · exact h
  | g => exact h
  | s t => exact h
theorem partF_lt {c : Cd} {rec : Int} {N m : Nat} {L : List Nat} {σ : Sg} (bd : Bd2 c σ) (hm : ∀ i, m.testBit i = true → i < (slL c.Sites).length) (r : Rw) (n : Nat) : partF c rec N m L σ r n < 2 ^ (slL c.Sites).length := by
  apply lt_of_bits
  intro i hi
  cases r with
  | f k =>
    simp only [partF] at hi
    split at hi
    · rw [Nat.testBit_or, Bool.or_eq_true] at hi
      rcases hi with hi | hi
      · exact bd _ _ _ hi
      · exact hm i hi
    · exact bd _ _ _ hi
  | g => exact bd _ _ _ hi
  | s t => exact bd _ _ _ hi
theorem step_six {c : Cd} {t : Nat} {x : In} {σ : Sg} {N : Nat} (e : x.Op = 6) (hN : x.N = N) (hm : meansO (getI (recL c x.Rec) x.N) = true) (bd : Bd2 c σ) (h32 : (slL c.Sites).length ≤ 32) : partF c x.Rec N (itemsN σ t (slL x.Items)) (bitsOf (σ (.s t) x.Src.toNat)) σ = stepS c t x σ := by
  funext r j
  have hd : dstB c t x = false := by simp [dstB, e]
  have e5 : ¬ (6 : Int) = 5 := by omega
  rw [hN] at hm
  simp only [stepS, contr, hd, e, e5, hm, hN, Bool.false_eq_true, false_and, if_false, true_and, Int.toNat_natCast]
  cases r with
  | f k =>
    simp only [partF, toF, Bool.and_eq_true]
    by_cases hc : k ∈ bitsOf (σ (.s t) x.Src.toNat) ∧ siteRec c k x.Rec = true ∧ j = N
    · rw [if_pos hc, if_pos ⟨⟨(mem_bits.1 hc.1).2, hc.2.1⟩, by have := hc.2.2; omega⟩]
    · rw [if_neg hc, if_neg]
      · simp
      · rintro ⟨⟨h1, h2⟩, h3⟩
        have := bd _ _ _ h1
        exact hc ⟨mem_bits.2 ⟨by omega, h1⟩, h2, by omega⟩
  | g => simp [partF, toF]
  | s t => simp [partF, toF]
theorem step_five {c : Cd} {t : Nat} {x : In} {σ : Sg} {N : Nat} (e : x.Op = 5) (hN : x.N = N) (hm : meansO (getI (slL c.Globals) x.N) = true) : updS σ .g N (σ .g N ||| itemsN σ t (slL x.Items)) = stepS c t x σ := by
  funext r j
  have hd : dstB c t x = false := by simp [dstB, e]
  rw [hN] at hm
  simp only [stepS, contr, hd, e, hN, hm, Bool.false_eq_true, false_and, if_false, true_and, updS, Int.toNat_natCast]
  by_cases hc : r = .g ∧ j = N
  · rw [if_pos hc, if_pos hc, hc.1, hc.2]
  · rw [if_neg hc, if_neg hc, if_neg (by omega)]; simp
theorem step_dst {c : Cd} {t : Nat} {x : In} {σ : Sg} {d : Nat} (hd : dstB c t x = true) (e : x.Dst = d) : updS σ (.s t) d (σ (.s t) d ||| bringsN c σ t x) = stepS c t x σ := by
  funext r j
  have h56 : x.Op ≠ 5 ∧ x.Op ≠ 6 := by
    simp only [dstB, Bool.and_eq_true, Bool.or_eq_true, decide_eq_true_eq] at hd
    omega
  simp only [stepS, contr, hd, e, true_and, updS, Int.toNat_natCast]
  by_cases hc : r = .s t ∧ j = d
  · rw [if_pos hc, if_pos hc, hc.1, hc.2]
  · rw [if_neg hc, if_neg hc, if_neg (by simp [h56.1]), if_neg (by simp [h56.2])]; simp
theorem step_no {c : Cd} {t : Nat} {x : In} {σ : Sg} (hd : dstB c t x = false) (h5 : x.Op = 5 → meansO (getI (slL c.Globals) x.N) = false) (h6 : x.Op = 6 → meansO (getI (recL c x.Rec) x.N) = false) : stepS c t x σ = σ := by
  funext r j
  simp only [stepS, contr, hd, Bool.false_eq_true, false_and, if_false]
  rw [if_neg, if_neg]
  · simp
  · rintro ⟨h, h2, _⟩; rw [h6 h] at h2; cases h2
  · rintro ⟨h, h2, _⟩; rw [h5 h] at h2; cases h2
def StepQ (h : AHeap) (sid : Nat) (c : Cd) (σ τ : Sg) (A : Rw → AV) (i1 i2 : Nat) (gr : Bool) (h2 : AHeap) : Prop := ∃ gr', (gr' = true ↔ gr = true ∨ τ ≠ σ) ∧ SolAt h2 sid c τ A i1 i2 gr' ∧ Keeps h h2 (Own sid c A)
theorem StepQ.same {h h2 : AHeap} {sid : Nat} {c : Cd} {σ : Sg} {A : Rw → AV} {i1 i2 : Nat} {gr : Bool} (s : SolAt h sid c σ A i1 i2 gr) (k : Keeps h h2 (fun _ => False)) : StepQ h sid c σ σ A i1 i2 gr h2 := ⟨gr, by simp, s.keep k, k.mono (fun _ h => h.elim)⟩
theorem siteRec_eq {c : Cd} {k : Nat} {s : Api_Site} {n : Int} (hk : (slL c.Sites)[k]? = some s) : siteRec c k n = decide (s.Rec = n) := by simp [siteRec, hk]
theorem store_fields {h h0 : AHeap} {sid : Nat} {c : Cd} {σ : Sg} {A : Rw → AV} {i1 i2 : Nat} {gr : Bool} (s : SolAt h sid c σ A i1 i2 gr) (wc : WfC c) (bd : Bd2 c σ) {t : Nat} {x : In} {N m y o : Nat} {rr : Option (List Lo)} (hN : x.N = N) (hr : getI (slL c.Records) x.Rec = some rr) (hNl : N < (slL rr).length)
    (hm : m = itemsN σ t (slL x.Items)) (hy : y = σ (.s t) x.Src.toNat) (ho : o = h.next) (hh0 : h0 = (h.push (.row 23 [.int .u64 (m : Nat)])).push (.row 23 [.int .u64 (y : Nat)])) (Q : AExit → Fr → AHeap → Prop)
    (hQ : ∀ hh fr, StepQ h sid c σ (partF c x.Rec N m (bitsOf y) σ) A i1 i2 gr hh → Q .normal fr hh) :
    WP Tryd.prog 92 (.rangeFunc (.tmp 64) #[65] c_pts_solver_store_7 c_pts_solver_store_8) (frOf [(3, .iptr [.ptr sid 0]), (5, .iptr x.cells), (6, .ptr o 0), (64, .fn (Fn.func 58) [] [.ptr (o + 1) 0])]) h0 Q := by
  subst ho
  have p32 := pow_small wc.sit
  have hyl : y < 18446744073709551616 := by have := bd.lt (.s t) x.Src.toNat; rw [hy]; omega
  have mb : ∀ i, m.testBit i = true → i < (slL c.Sites).length := fun i hi => items_bd bd (by rw [← hm]; exact hi)
  have hml : m < 18446744073709551616 := by have := lt_of_bits mb; omega
  have n0 : h0.next = h.next + 2 := by rw [hh0]; rfl
  have kp0 : Keeps h h0 (fun _ => False) := by rw [hh0]; exact (Keeps.one _ _).go (Keeps.one _ _)
  refine range_each (h := h0) (b := h.next + 1) (x := y) hyl (by rfl) (by rw [hh0]; simp) (by omega) (by rfl) (by kernel_rfl) (by kernel_rfl)
    (fun k => frOf [(3, .iptr [.ptr sid 0]), (5, .iptr x.cells), (6, .ptr h.next 0), (7, .int .i64 (k : Nat))])
    (fun n hh => StepQ h sid c σ (partF c x.Rec N m ((bitsOf y).take n) σ) A i1 i2 gr hh ∧ hh.objs h.next = some (.row 23 [.int .u64 (m : Nat)]) ∧ h.next + 2 ≤ hh.next) ?_ ?_ ?_ ?_ ?_
  · refine ⟨?_, ?_, by omega⟩
    · rw [List.take_zero, partF_nil]
      exact StepQ.same s kp0
    · rw [hh0, push_old (by simp)]; simp
  · rintro n hh h2 ⟨⟨g2, q1, q2, q3⟩, j2, j3⟩ al
    refine ⟨⟨g2, q1, s.alike q2 al (by omega) (by omega), ⟨Nat.le_trans q3.next al.1, fun i hi ho => ?_⟩⟩, by rw [al.2 _ (by omega) (by omega)]; exact j2, by have := al.1; omega⟩
    rw [al.2 i (by omega) (by omega)]
    exact q3.objs i hi ho
  · intro k hh
    show WP _ _ _ (setPs [65] [.int .i64 (k : Nat)] (frOf _)) _ _
    simp only [setPs, upd_frOf]
    refine WP.restr [3, 5, 6, 65] ?_
    apply pts_solver_store_loop7
    exact ⟨rfl, rfl, rfl⟩
  · rintro n k hh hk ⟨⟨g2, q1, S, q3⟩, j2, j3⟩ hL
    have hkm := mem_bits.1 (List.mem_of_getElem? hk)
    have hks : k < (slL c.Sites).length := bd _ _ _ (by rw [← hy]; exact hkm.2)
    obtain ⟨st, hst⟩ : ∃ st, (slL c.Sites)[k]? = some st := ⟨_, List.getElem?_eq_getElem hks⟩
    have ld : ∀ K : AV → Prop, pLoad none (.ptr h.next 0) hh K = K (.int .u64 (m : Nat)) := fun K => by rw [pLoad_ptr j2]; simp [pCells]
    have htk : (bitsOf y).take (n + 1) = (bitsOf y).take n ++ [k] := by rw [List.take_add_one, hk]; rfl
    apply pts_solver_store_loop8
    (repeat simp -dsimp -implicitDefEqProofs (disch := omega) only [↓rP, rQ, rO, rL, ↓reduceIte, Nat.reduceEqDiff, Nat.reduceAdd, Nat.reduceLeDiff, pBuild, fillA, ↓tyr, S.ld, solR, pIndexAddr_slAV hst])
    refine Split_eq (fun he => ?_) (fun he => ?_)
    · have hsr : siteRec c k x.Rec = true := by rw [siteRec_eq hst]; exact decide_eq_true he
      have hlen : N < lenR c (.f k) := by simp only [lenR, hst, he, recL, hr]; exact hNl
      obtain ⟨rid, r1, r2, r3, ix, ldr⟩ := S.sets.ix hlen
      (repeat simp -dsimp -implicitDefEqProofs (disch := omega) only [↓rP, rQ, rO, rL, ↓reduceIte, Nat.reduceEqDiff, Nat.reduceAdd, Nat.reduceLeDiff, pBuild, fillA, ↓tyr, S.ld, solR, outA_ix hks, hN, ix, ld])
      refine (add_does S hlen r1 (by have := partF_lt (L := (bitsOf y).take n) (rec := x.Rec) (N := N) bd mb (.f k) N; omega) hml).mono ?_
      rintro _ h2 ⟨rfl, g3, a1, a2, a3⟩
      rw [← partF_yes hsr, ← htk] at a1 a2
      have hno : ∀ i, h.next ≤ i → ¬ Own sid c A i := fun i hi ho => by have := Own.lt s ho; omega
      (repeat simp -dsimp -implicitDefEqProofs (disch := omega) only [↓rP, rQ, rO, rL, ↓reduceIte, Nat.reduceEqDiff, Nat.reduceAdd, Nat.reduceLeDiff, pBuild, fillA, ↓tyr])
      refine ⟨⟨⟨g3, ?_, a2, ?_⟩, ?_, ?_⟩, a3.next, ?_, ?_⟩
      · rw [a1, q1, or_assoc]
        have hle : Le (partF c x.Rec N m ((bitsOf y).take n) σ) (partF c x.Rec N m ((bitsOf y).take (n + 1)) σ) := by
          rw [htk, partF_yes hsr]
          intro r j i hi
          unfold updS
          split
          · rename_i hq; rw [hq.1, hq.2] at hi; rw [Nat.testBit_or, hi]; rfl
          · exact hi
        rw [grew_trans (partF_le _ _ _ _ _ _) hle]
      · exact q3.trans a3 (fun _ _ h => h)
      · rw [a3.objs _ (by omega) (hno _ (by omega))]; exact j2
      · have := a3.next; omega
      · exact a3.objs _ (by omega) (hno _ (by omega))
      · exact a3.objs _ (by omega) (hno _ (by omega))
    · have hsr : siteRec c k x.Rec = false := by rw [siteRec_eq hst]; exact decide_eq_false he
      (repeat simp -dsimp -implicitDefEqProofs (disch := omega) only [↓rP, rQ, rO, rL, ↓reduceIte, Nat.reduceEqDiff, Nat.reduceAdd, Nat.reduceLeDiff, pBuild, fillA, ↓tyr])
      rw [htk, partF_no hsr]
      exact ⟨⟨g2, q1, S, q3⟩, j2, j3⟩
  · rintro hh ⟨j1, j2, j3⟩
    rw [List.take_length] at j1
    exact hQ hh _ j1
theorem store_does {h : AHeap} {sid : Nat} {c : Cd} {σ : Sg} {A : Rw → AV} {i1 i2 : Nat} {gr : Bool} (s : SolAt h sid c σ A i1 i2 gr) (wc : WfC c) (bd : Bd2 c σ) {t : Nat} {b : Bd} {x : In} (hb : (slL c.Threads)[t]? = some b) (w : Wf c b x) (hok : okSl Api_Item.ok x.Items)
    (hop : x.Op = 5 ∨ x.Op = 6) :
    CallsA Tryd.prog 53 [.ptr sid 0, .int .i64 t, .agg x.cells] h (fun v h2 => v = .tup [] ∧ StepQ h sid c σ (stepS c t x σ) A i1 i2 gr h2) := by
  have htl : t < (slL c.Threads).length := (List.getElem?_eq_some_iff.1 hb).1
  have p32 := pow_small wc.sit
  have h32 := wc.sit
  have hm : itemsN σ t (slL x.Items) < 18446744073709551616 := by have := lt_of_bits (fun i hi => items_bd bd (t := t) (l := slL x.Items) (i := i) hi); omega
  obtain ⟨w1, w2⟩ := w.items (Or.inr hop)
  have S1 := s.keep (Keeps.one h (.row 23 [.int .u64 (itemsN σ t (slL x.Items) : Nat)]))
  have ld1 : ∀ K : AV → Prop, pLoad none (.ptr h.next 0) (h.push (.row 23 [.int .u64 (itemsN σ t (slL x.Items) : Nat)])) K = K (.int .u64 (itemsN σ t (slL x.Items) : Nat)) := fun K => by rw [pLoad_push]; simp [pCells]
  apply pts_solver_store_wp
  (repeat simp -dsimp -implicitDefEqProofs (disch := omega) only [↓rP, rQ, rO, rL, ↓reduceIte, Nat.reduceEqDiff, Nat.reduceAdd, Nat.reduceLeDiff, pBuild, fillA, ↓tyr])
  refine CallsA.go (from_does s wc bd hb x.Items hok w1 w2) ?_
  rcases hop with e | e
  · obtain ⟨N, eN, hl⟩ := btw_nat (w.glob (Or.inr e))
    obtain ⟨g, hg⟩ : ∃ g, (slL c.Globals)[N]? = some g := ⟨_, List.getElem?_eq_getElem hl⟩
    have hgl : N < lenR c .g := hl
    (repeat simp -dsimp -implicitDefEqProofs (disch := omega) only [↓rP, rQ, rO, rL, ↓reduceIte, Nat.reduceEqDiff, Nat.reduceAdd, Nat.reduceLeDiff, pBuild, fillA, ↓tyr])
    rw [pStore_one (by rfl)]
    (repeat simp -dsimp -implicitDefEqProofs (disch := omega) only [↓rP, rQ, rO, rL, ↓reduceIte, Nat.reduceEqDiff, Nat.reduceAdd, Nat.reduceLeDiff, pBuild, fillA, ↓tyr, e, eN, Int.reduceBEq, S1.ld, solR, pIndexAddr_slAV hg])
    refine CallsA.go (means_does g _) ?_
    have hmo : meansO (getI (slL c.Globals) x.N) = meansB g := by rw [eN, getI_natCast, hg]; rfl
    cases hmg : meansB g with
    | true =>
      obtain ⟨rid, r1, r2, r3, ix, ldr⟩ := S1.sets.ix hgl
      (repeat simp -dsimp -implicitDefEqProofs (disch := omega) only [↓rP, rQ, rO, rL, ↓reduceIte, Nat.reduceEqDiff, Nat.reduceAdd, Nat.reduceLeDiff, pBuild, fillA, ↓tyr, e, eN, Int.reduceBEq, S1.ld, solR, ix, ld1])
      refine (add_does S1 hgl r1 (by have := bd.lt .g N; omega) hm).mono ?_
      rintro _ h2 ⟨rfl, g3, a1, a2, a3⟩
      rw [step_five e eN (by rw [hmo, hmg])] at a1 a2
      (repeat simp -dsimp -implicitDefEqProofs (disch := omega) only [↓rP, rQ, rO, rL, ↓reduceIte, Nat.reduceEqDiff, Nat.reduceAdd, Nat.reduceLeDiff, pBuild, fillA, ↓tyr])
      exact ⟨g3, a1, a2, ((Keeps.one _ _).mono (fun _ h => h.elim)).trans a3 (fun _ _ h => h)⟩
    | false =>
      (repeat simp -dsimp -implicitDefEqProofs (disch := omega) only [↓rP, rQ, rO, rL, ↓reduceIte, Nat.reduceEqDiff, Nat.reduceAdd, Nat.reduceLeDiff, pBuild, fillA, ↓tyr])
      rw [step_no (by simp [dstB, e]) (fun _ => by rw [hmo, hmg]) (fun h => by omega)]
      exact StepQ.same s (Keeps.one _ _)
  · obtain ⟨rr, hr, hN, hS⟩ := w.fld (Or.inr e)
    obtain ⟨N, eN, hNl⟩ := btw_nat hN
    obtain ⟨m, em, hml⟩ := btw_nat hS
    obtain ⟨f, hf⟩ : ∃ f, (slL rr)[N]? = some f := ⟨_, List.getElem?_eq_getElem hNl⟩
    have hsl : m < lenR c (.s t) := by rw [lenR_s hb]; exact hml
    (repeat simp -dsimp -implicitDefEqProofs (disch := omega) only [↓rP, rQ, rO, rL, ↓reduceIte, Nat.reduceEqDiff, Nat.reduceAdd, Nat.reduceLeDiff, pBuild, fillA, ↓tyr])
    rw [pStore_one (by rfl)]
    (repeat simp -dsimp -implicitDefEqProofs (disch := omega) only [↓rP, rQ, rO, rL, ↓reduceIte, Nat.reduceEqDiff, Nat.reduceAdd, Nat.reduceLeDiff, pBuild, fillA, ↓tyr, e, eN, Int.reduceBEq, S1.ld, solR, ixI hr, pIndexAddr_slAV hf])
    refine CallsA.go (means_does f _) ?_
    have hmo : meansO (getI (recL c x.Rec) x.N) = meansB f := by simp only [recL, hr]; rw [eN, getI_natCast, hf]; rfl
    cases hmg : meansB f with
    | true =>
      obtain ⟨rid, r1, r2, r3, ix, ldr⟩ := S1.sets.ix hsl
      (repeat simp -dsimp -implicitDefEqProofs (disch := omega) only [↓rP, rQ, rO, rL, ↓reduceIte, Nat.reduceEqDiff, Nat.reduceAdd, Nat.reduceLeDiff, pBuild, fillA, ↓tyr, S1.ld, solR, outA_ix htl, em, ix, ldr])
      refine (each_does _ _).mono ?_
      rintro _ _ ⟨rfl, rfl⟩
      (repeat simp -dsimp -implicitDefEqProofs (disch := omega) only [↓rP, rQ, rO, rL, ↓reduceIte, Nat.reduceEqDiff, Nat.reduceAdd, Nat.reduceLeDiff, pBuild, fillA, ↓tyr])
      refine store_fields (h0 := (h.push (.row 23 [.int .u64 (itemsN σ t (slL x.Items) : Nat)])).push (.row 23 [.int .u64 (σ (.s t) m : Nat)])) (y := σ (.s t) m) (rr := rr) s wc bd eN hr hNl rfl (by rw [em]; rfl) rfl rfl _ ?_
      intro hh fr q
      have e6 := step_six (t := t) e eN (by rw [hmo, hmg]) bd h32
      rw [em, Int.toNat_natCast] at e6
      rw [e6] at q
      (repeat simp -dsimp -implicitDefEqProofs (disch := omega) only [↓rP, rQ, rO, rL, ↓reduceIte, Nat.reduceEqDiff, Nat.reduceAdd, Nat.reduceLeDiff, pBuild, fillA, ↓tyr])
      exact q
    | false =>
      (repeat simp -dsimp -implicitDefEqProofs (disch := omega) only [↓rP, rQ, rO, rL, ↓reduceIte, Nat.reduceEqDiff, Nat.reduceAdd, Nat.reduceLeDiff, pBuild, fillA, ↓tyr])
      rw [step_no (by simp [dstB, e]) (fun h => by omega) (fun _ => by rw [hmo, hmg])]
      exact StepQ.same s (Keeps.one _ _)
end Go.Proofs.YtopfjochppdnfaaDoor
end

section
/- A step, by the program. -/
set_option maxRecDepth 8000
set_option maxHeartbeats 1000000
namespace Go.Proofs.YtopfjochppdnfaaDoor
open Go.Abs
theorem step_does {h : AHeap} {sid : Nat} {c : Cd} {σ : Sg} {A : Rw → AV} {i1 i2 : Nat} {gr : Bool} (s : SolAt h sid c σ A i1 i2 gr) (wc : WfC c) (bd : Bd2 c σ) {t : Nat} {b : Bd} {x : In} (hb : (slL c.Threads)[t]? = some b) (w : Wf c b x) (hok : okSl Api_Item.ok x.Items) :
    CallsA Tryd.prog 35 [.ptr sid 0, .int .i64 t, .agg x.cells] h (fun v h2 => v = .tup [] ∧ StepQ h sid c σ (stepS c t x σ) A i1 i2 gr h2) := by
  have htl : t < (slL c.Threads).length := (List.getElem?_eq_some_iff.1 hb).1
  have p32 := pow_small wc.sit
  have h32 := wc.sit
  have hst : slotsL c t = slL b.Slots := by unfold slotsL; rw [hb]
  apply pts_solver_step_wp
  (repeat simp -dsimp -implicitDefEqProofs (disch := omega) only [↓rP, rQ, rO, rL, ↓reduceIte, Nat.reduceEqDiff, Nat.reduceAdd, Nat.reduceLeDiff, pBuild, fillA, ↓tyr])
  refine CallsA.go (code_Writes_does x _) ?_
  by_cases ho : x.Op = 1 ∨ x.Op = 2 ∨ x.Op = 3 ∨ x.Op = 4 ∨ x.Op = 8 ∨ x.Op = 9 ∨ x.Op = 10
  · rw [if_pos ho]
    obtain ⟨d, ed, hd⟩ := btw_nat (w.dst ho)
    obtain ⟨l, hl⟩ : ∃ l, (slL b.Slots)[d]? = some l := ⟨_, List.getElem?_eq_getElem hd⟩
    have hdl : d < lenR c (.s t) := by rw [lenR_s hb]; exact hd
    have n5 : (x.Op == 5) = false := by rw [beqI]; exact decide_eq_false (by omega)
    have n6 : (x.Op == 6) = false := by rw [beqI]; exact decide_eq_false (by omega)
    have hgl : getI (slL b.Slots) x.Dst = some l := by rw [ed, getI_natCast]; exact hl
    have hmo : meansO (getI (slotsL c t) x.Dst) = meansB l := by rw [hst, hgl]; rfl
    (repeat simp -dsimp -implicitDefEqProofs (disch := omega) only [↓rP, rQ, rO, rL, ↓reduceIte, Nat.reduceEqDiff, Nat.reduceAdd, Nat.reduceLeDiff, pBuild, fillA, ↓tyr, ed, s.ld, solR, pIndexAddr_slAV hb, pIndexAddr_slAV hl])
    refine CallsA.go (means_does l _) ?_
    cases hm : meansB l with
    | true =>
      have hop : x.Op = 1 ∨ x.Op = 2 ∨ x.Op = 3 ∨ x.Op = 8 ∨ x.Op = 9 := by
        by_cases h4 : x.Op = 4 ∨ x.Op = 10
        · have hk := w.ints h4 l hgl
          simp [meansB, hk] at hm
        · omega
      have hds : dstB c t x = true := by
        simp only [dstB, hmo, hm, Bool.and_true, Bool.or_eq_true, decide_eq_true_eq]; omega
      obtain ⟨rid, r1, r2, r3, ix, ldr⟩ := s.sets.ix hdl
      have hbr : bringsN c σ t x < 18446744073709551616 := by have := lt_of_bits (fun i hi => brings_bd bd w (t := t) (i := i) hi); omega
      (repeat simp -dsimp -implicitDefEqProofs (disch := omega) only [↓rP, rQ, rO, rL, ↓reduceIte, Nat.reduceEqDiff, Nat.reduceAdd, Nat.reduceLeDiff, pBuild, fillA, ↓tyr, ed, s.ld, solR, outA_ix htl, ix])
      refine CallsA.go (load_does s wc bd hb w hok hop) ?_
      (repeat simp -dsimp -implicitDefEqProofs (disch := omega) only [↓rP, rQ, rO, rL, ↓reduceIte, Nat.reduceEqDiff, Nat.reduceAdd, Nat.reduceLeDiff, pBuild, fillA, ↓tyr, s.ld, solR])
      refine (add_does s hdl r1 (by have := bd.lt (.s t) d; omega) hbr).mono ?_
      rintro _ h2 ⟨rfl, g3, a1, a2, a3⟩
      rw [step_dst hds ed] at a1 a2
      (repeat simp -dsimp -implicitDefEqProofs (disch := omega) only [↓rP, rQ, rO, rL, ↓reduceIte, Nat.reduceEqDiff, Nat.reduceAdd, Nat.reduceLeDiff, pBuild, fillA, ↓tyr, n5, n6])
      exact ⟨g3, a1, a2, a3⟩
    | false =>
      (repeat simp -dsimp -implicitDefEqProofs (disch := omega) only [↓rP, rQ, rO, rL, ↓reduceIte, Nat.reduceEqDiff, Nat.reduceAdd, Nat.reduceLeDiff, pBuild, fillA, ↓tyr, n5, n6])
      rw [step_no (by simp [dstB, hmo, hm]) (fun h => by omega) (fun h => by omega)]
      exact StepQ.same s (.refl _ _)
  · rw [if_neg ho]
    have hds : dstB c t x = false := by
      simp only [dstB, Bool.and_eq_false_iff, Bool.or_eq_false_iff, decide_eq_false_iff_not]; left; omega
    by_cases h56 : x.Op = 5 ∨ x.Op = 6
    · rcases h56 with e | e
      · (repeat simp -dsimp -implicitDefEqProofs (disch := omega) only [↓rP, rQ, rO, rL, ↓reduceIte, Nat.reduceEqDiff, Nat.reduceAdd, Nat.reduceLeDiff, pBuild, fillA, ↓tyr, e, Int.reduceBEq])
        refine (store_does s wc bd hb w hok (Or.inl e)).mono ?_
        rintro _ h2 ⟨rfl, q⟩
        (repeat simp -dsimp -implicitDefEqProofs (disch := omega) only [↓rP, rQ, rO, rL, ↓reduceIte, Nat.reduceEqDiff, Nat.reduceAdd, Nat.reduceLeDiff, pBuild, fillA, ↓tyr])
        exact q
      · (repeat simp -dsimp -implicitDefEqProofs (disch := omega) only [↓rP, rQ, rO, rL, ↓reduceIte, Nat.reduceEqDiff, Nat.reduceAdd, Nat.reduceLeDiff, pBuild, fillA, ↓tyr, e, Int.reduceBEq])
        refine (store_does s wc bd hb w hok (Or.inr e)).mono ?_
        rintro _ h2 ⟨rfl, q⟩
        (repeat simp -dsimp -implicitDefEqProofs (disch := omega) only [↓rP, rQ, rO, rL, ↓reduceIte, Nat.reduceEqDiff, Nat.reduceAdd, Nat.reduceLeDiff, pBuild, fillA, ↓tyr])
        exact q
    · have n5 : (x.Op == 5) = false := by rw [beqI]; exact decide_eq_false (by omega)
      have n6 : (x.Op == 6) = false := by rw [beqI]; exact decide_eq_false (by omega)
      (repeat simp -dsimp -implicitDefEqProofs (disch := omega) only [↓rP, rQ, rO, rL, ↓reduceIte, Nat.reduceEqDiff, Nat.reduceAdd, Nat.reduceLeDiff, pBuild, fillA, ↓tyr, n5, n6])
      rw [step_no hds (fun h => by omega) (fun h => by omega)]
      exact StepQ.same s (.refl _ _)
end Go.Proofs.YtopfjochppdnfaaDoor
end

section
/- How the solver's rows are laid. -/
set_option maxRecDepth 8000
set_option maxHeartbeats 1000000
namespace Go.Proofs.YtopfjochppdnfaaDoor
open Go.Abs
theorem mk_row (n : Nat) (hn : n ≤ 1000000) (h : AHeap) (K : AV → AHeap → Prop) : pMakeSl { e := 23, sz := 1, by_ := 8 } [.int .u64 0] (.int .i64 (n : Int)) (.int .i64 (n : Int)) h K = K (.sl h.next 0 n 1) (h.push (.row 23 (rowC (fun _ => 0) n))) := by
  have e : repC n [AV.int .u64 0] = rowC (fun _ => 0) n := by
    simp only [repC, rowC]
    apply List.ext_getElem?
    intro i
    simp only [List.getElem?_replicate, List.getElem?_map, List.getElem?_range']
    by_cases hi : i < n
    · simp [hi]
    · simp [hi, List.getElem?_eq_none]
  simp only [pMakeSl, Int.toNat_natCast, e]
  apply propext
  constructor
  · rintro ⟨-, -, -, -, -, hk⟩; exact hk
  · intro hk; exact ⟨by omega, by omega, by omega, by omega, rfl, hk⟩
theorem bsl_sl (id n : Nat) (h : AHeap) (K : AV → AHeap → Prop) : pBuildSl true { e := 27, sz := 1, by_ := 24 } [AV.nils] 1 [(0, .sl id 0 n 1)] h K = K (.isl 1 [[.sl id 0 n 1]]) h := by
  simp [pBuildSl, fillE, AV.fits, AV.cells]
theorem outA_congr {id n : Nat} {f g : Nat → AV} (h : ∀ k, k < n → f k = g k) : outA id n f = outA id n g := by
  unfold outA
  split
  · rfl
  · congr 1
    apply List.map_congr_left
    intro k hk
    rw [h k (List.mem_range.1 hk)]
theorem outA_push {h : AHeap} {tok k : Nat} {f : Nat → AV} (hk : k ≤ 1000) (p : k = 0 ∨ (tok < h.next ∧ h.objs tok = some (.tok 27 k))) {K : AV → AHeap → Prop}
    (hK : ∀ h2, h2.objs h.next = some (.tok 27 (k + 1)) → h2.next = h.next + 1 → Keeps h h2 (fun x => x = tok ∧ 0 < k) → K (outA h.next (k + 1) f) h2) : pAppend true { e := 27, sz := 1, by_ := 24 } (outA tok k f) (.isl 1 [[f k]]) h K := by
  have hnew : outA h.next (k + 1) f = .gsl h.next 1 (((List.range k).map fun j => [f j]) ++ [[f k]]) := by
    unfold outA
    rw [if_neg (by omega), List.range_succ, List.map_append]; rfl
  rw [hnew] at hK
  unfold outA
  by_cases h0 : k = 0
  · subst h0
    simp only [if_true, pAppend, srcElems, newSl]
    refine ⟨by simp [bounded, maxLen], ?_⟩
    exact hK _ (by simp) rfl ⟨by simp, fun x hx hs => push_old hx _⟩
  · rcases p with p | ⟨p1, p2⟩
    · exact absurd p h0
    · simp only [if_neg h0, pAppend, srcElems, p2, if_true]
      refine ⟨trivial, trivial, by simp, by simp [bounded, maxLen]; omega, ?_⟩
      refine hK _ ?_ rfl ⟨by simp, fun x hx hs => ?_⟩
      · have : (h.kill tok).next = h.next := rfl
        rw [← this, push_new]; simp
      · rw [push_old (by simpa using hx), kill_old (fun e => hs ⟨e, by omega⟩)]
def inB (k1 k2 : Nat) : Rw → Prop
  | .g => True
  | .s t => t < k1
  | .f k => k < k2
def solP (c : Cd) (A : Rw → AV) (i1 k1 i2 k2 : Nat) : List AV := c.cells ++ ([outA i1 k1 (fun t => A (.s t)), A .g, outA i2 k2 (fun k => A (.f k))] ++ [.bool true])
structure BuildAt (h hh : AHeap) (sid : Nat) (c : Cd) (A : Rw → AV) (i1 k1 i2 k2 : Nat) : Prop where
  rows : ∀ r, inB k1 k2 r → ∃ id, A r = .sl id 0 (lenR c r) 1 ∧ h.next < id ∧ id < hh.next ∧ hh.objs id = some (.row 23 (rowC (fun _ => 0) (lenR c r)))
  none : ∀ r, ¬ inB k1 k2 r → A r = .nils
  one : ∀ r r' id, A r = .sl id 0 (lenR c r) 1 → A r' = .sl id 0 (lenR c r') 1 → r = r'
  obj : hh.objs sid = some (.row 74 (solP c A i1 k1 i2 k2))
  gt : h.next < sid
  lt : sid < hh.next
  t1 : k1 = 0 ∨ k1 = (slL c.Threads).length ∨ (h.next < i1 ∧ i1 < hh.next ∧ hh.objs i1 = some (.tok 27 k1))
  t2 : k2 = 0 ∨ (h.next < i2 ∧ i2 < hh.next ∧ hh.objs i2 = some (.tok 27 k2))
  res : hh.objs h.next = some (.row 29 [.nils, .nils, .nils])
  keep : Keeps h hh (fun _ => False)
theorem BuildAt.mono {h hh h2 : AHeap} {sid : Nat} {c : Cd} {A : Rw → AV} {i1 k1 i2 k2 : Nat} (B : BuildAt h hh sid c A i1 k1 i2 k2) (k : Keeps hh h2 (fun _ => False)) : BuildAt h h2 sid c A i1 k1 i2 k2 := by
  have kk : ∀ {i : Nat}, i < hh.next → h2.objs i = hh.objs i := fun hi => k.objs _ hi (fun h => h)
  have kn := k.next
  have := B.gt
  have := B.lt
  refine ⟨fun r hr => ?_, B.none, B.one, by rw [kk B.lt]; exact B.obj, B.gt, by omega, ?_, ?_, by rw [kk (by omega)]; exact B.res, B.keep.go k⟩
  · obtain ⟨id, e, h1, h2, h3⟩ := B.rows r hr
    exact ⟨id, e, h1, by omega, by rw [kk h2]; exact h3⟩
  · rcases B.t1 with e | e | ⟨h1, h2, h3⟩
    · exact Or.inl e
    · exact Or.inr (Or.inl e)
    · exact Or.inr (Or.inr ⟨h1, by omega, by rw [kk h2]; exact h3⟩)
  · rcases B.t2 with e | ⟨h1, h2, h3⟩
    · exact Or.inl e
    · exact Or.inr ⟨h1, by omega, by rw [kk h2]; exact h3⟩
theorem BuildAt.more {h hA hC : AHeap} {sid : Nat} {c : Cd} {A A' : Rw → AV} {i1 k1 i2 k2 j1 l1 j2 l2 : Nat} (B : BuildAt h hA sid c A i1 k1 i2 k2) {r0 : Rw} (h0 : ¬ inB k1 k2 r0) (hin : ∀ r, inB l1 l2 r ↔ inB k1 k2 r ∨ r = r0)
    (hA' : A' = fun r => if r = r0 then .sl hA.next 0 (lenR c r0) 1 else A r) {S : Nat → Prop} (kC : Keeps (hA.push (.row 23 (rowC (fun _ => 0) (lenR c r0)))) hC S) (hS : ∀ x, S x → h.next < x ∧ x < hA.next ∧ ∃ n, hA.objs x = some (.tok 27 n))
    (t1 : l1 = 0 ∨ l1 = (slL c.Threads).length ∨ (h.next < j1 ∧ j1 < hC.next ∧ hC.objs j1 = some (.tok 27 l1))) (t2 : l2 = 0 ∨ (h.next < j2 ∧ j2 < hC.next ∧ hC.objs j2 = some (.tok 27 l2))) :
    BuildAt h (hC.put sid (.row 74 (solP c A' j1 l1 j2 l2))) sid c A' j1 l1 j2 l2 := by
  have hsid : sid < hA.next := B.lt
  have hgt := B.gt
  have hnC : hA.next + 1 ≤ hC.next := kC.next
  have old : ∀ {x : Nat} {ty : TypeId} {cs : List AV}, x < hA.next → hA.objs x = some (.row ty cs) → hC.objs x = some (.row ty cs) := by
    intro x ty cs hx ho
    have nS : ¬ S x := fun hs => by
      obtain ⟨_, _, n, hn⟩ := hS x hs
      rw [ho] at hn; simp at hn
    rw [kC.objs x (by simp; omega) nS, push_old hx]; exact ho
  have oS : hC.objs sid = _ := old hsid B.obj
  have new : hC.objs hA.next = some (.row 23 (rowC (fun _ => 0) (lenR c r0))) := by
    have nS : ¬ S hA.next := fun hs => by have := (hS _ hs).2.1; omega
    rw [kC.objs _ (by simp) nS, push_new]
  have ne0 : ∀ {r}, inB k1 k2 r → r ≠ r0 := fun h e => h0 (e ▸ h)
  have aold : ∀ {r}, r ≠ r0 → A' r = A r := fun e => by rw [hA']; simp only; rw [if_neg e]
  have anew : A' r0 = .sl hA.next 0 (lenR c r0) 1 := by rw [hA']; simp
  have rlt : ∀ {r id}, A r = .sl id 0 (lenR c r) 1 → id < hA.next ∧ inB k1 k2 r := by
    intro r id e
    by_cases hr : inB k1 k2 r
    · obtain ⟨id2, e2, _, h2, _⟩ := B.rows r hr
      rw [e] at e2; cases e2
      exact ⟨h2, hr⟩
    · have := B.none r hr
      rw [e] at this; cases this
  have nsid : ∀ {x : Nat} {cs : List AV}, x < hA.next → hA.objs x = some (.row 23 cs) → x ≠ sid := by
    rintro x cs _ ho rfl
    rw [B.obj] at ho
    simp at ho
  refine ⟨fun r hr => ?_, fun r hr => ?_, ?_, put_new _ _ _, hgt, by simp; omega, ?_, ?_, ?_, ?_⟩
  · rcases (hin r).1 hr with hr | rfl
    · obtain ⟨id, e, g1, g2, g3⟩ := B.rows r hr
      refine ⟨id, by rw [aold (ne0 hr)]; exact e, g1, by simp; omega, ?_⟩
      rw [put_old (nsid g2 g3)]
      exact old g2 g3
    · exact ⟨hA.next, anew, by omega, by simp; omega, by rw [put_old (by omega)]; exact new⟩
  · have h1 : ¬ inB k1 k2 r := fun h => hr ((hin r).2 (Or.inl h))
    have h2 : r ≠ r0 := fun h => hr ((hin r).2 (Or.inr h))
    rw [aold h2]; exact B.none r h1
  · intro r r' id e e'
    by_cases h1 : r = r0
    · by_cases h2 : r' = r0
      · rw [h1, h2]
      · rw [aold h2] at e'
        rw [h1, anew] at e
        cases e
        have := (rlt e').1
        omega
    · rw [aold h1] at e
      by_cases h2 : r' = r0
      · rw [h2, anew] at e'
        cases e'
        have := (rlt e).1
        omega
      · rw [aold h2] at e'
        exact B.one r r' id e e'
  · rcases t1 with e | e | ⟨g1, g2, g3⟩
    · exact Or.inl e
    · exact Or.inr (Or.inl e)
    · refine Or.inr (Or.inr ⟨g1, by simpa using g2, ?_⟩)
      rw [put_old]
      · exact g3
      · rintro rfl; rw [oS] at g3; simp at g3
  · rcases t2 with e | ⟨g1, g2, g3⟩
    · exact Or.inl e
    · refine Or.inr ⟨g1, by simpa using g2, ?_⟩
      rw [put_old]
      · exact g3
      · rintro rfl; rw [oS] at g3; simp at g3
  · rw [put_old (by omega)]
    exact old (by omega) B.res
  · refine ⟨by have := B.keep.next; simp; omega, fun i hi _ => ?_⟩
    have hi2 := B.keep.next
    rw [put_old (by omega), kC.objs i (by simp; omega) (fun hs => by have := (hS i hs).1; omega), push_old (by omega)]
    exact B.keep.objs i hi (fun h => h)
theorem BuildAt.start {h hh : AHeap} {sid : Nat} {c : Cd} {A : Rw → AV} {i1 i2 : Nat} (B : BuildAt h hh sid c A i1 (slL c.Threads).length i2 (slL c.Sites).length) : SolAt hh sid c (fun _ _ => 0) A i1 i2 true ∧ ∀ i, Own sid c A i → h.next < i := by
  have hin : ∀ r, ¬ inB (slL c.Threads).length (slL c.Sites).length r → lenR c r = 0 := by
    intro r hr
    cases r with
    | g => exact absurd trivial hr
    | s t => simp only [inB] at hr; simp only [lenR, slotsL]; rw [List.getElem?_eq_none (by omega)]; rfl
    | f k => simp only [inB] at hr; exact lenR_f hr
  have hid : ∀ r id, A r = .sl id 0 (lenR c r) 1 → h.next < id ∧ ∃ cs, hh.objs id = some (.row 23 cs) := by
    intro r id e
    by_cases hr : inB (slL c.Threads).length (slL c.Sites).length r
    · obtain ⟨id2, e2, g1, g2, g3⟩ := B.rows r hr
      rw [e] at e2; cases e2
      exact ⟨g1, _, g3⟩
    · have := B.none r hr
      rw [e] at this; cases this
  refine ⟨⟨⟨fun r => ?_, B.one⟩, B.obj, B.lt, fun r e => ?_⟩, ?_⟩
  · by_cases hr : inB (slL c.Threads).length (slL c.Sites).length r
    · obtain ⟨id, e, g1, g2, g3⟩ := B.rows r hr
      exact Or.inr ⟨id, e, g2, g3⟩
    · exact Or.inl ⟨B.none r hr, hin r hr⟩
  · obtain ⟨_, cs, ho⟩ := hid r sid e
    rw [B.obj] at ho
    simp at ho
  · rintro i (rfl | ⟨r, e⟩)
    · exact B.gt
    · exact (hid r i e).1
end Go.Proofs.YtopfjochppdnfaaDoor
end

section
/- How the solver begins. -/
set_option maxRecDepth 8000
set_option maxHeartbeats 1000000
namespace Go.Proofs.YtopfjochppdnfaaDoor
open Go.Abs
theorem outA_leafy (id n : Nat) (f : Nat → AV) : (outA id n f).leafy = true := by
  unfold outA; split <;> rfl
theorem outA_more {h : AHeap} {tok k : Nat} {f g : Nat → AV} {a : AV} (hg : ∀ j, j < k → g j = f j) (ha : f k = a) (hk : k ≤ 1000) (p : k = 0 ∨ (tok < h.next ∧ h.objs tok = some (.tok 27 k))) {K : AV → AHeap → Prop}
    (hK : ∀ h2, h2.objs h.next = some (.tok 27 (k + 1)) → h2.next = h.next + 1 → Keeps h h2 (fun x => x = tok ∧ 0 < k) → K (outA h.next (k + 1) f) h2) : pAppend true { e := 27, sz := 1, by_ := 24 } (outA tok k g) (.isl 1 [[a]]) h K := by
  rw [outA_congr hg, ← ha]
  exact outA_push hk p hK
section
variable (c : Cd) (A : Rw → AV) (i1 k1 i2 k2 : Nat) (K : AV → Prop)
theorem solP_5 : pCells none (solP c A i1 k1 i2 k2) 5 K = K (outA i1 k1 (fun t => A (.s t))) := by simp [pCells, solP, Api_Code.cells]
theorem solP_7 : pCells none (solP c A i1 k1 i2 k2) 7 K = K (outA i2 k2 (fun k => A (.f k))) := by simp [pCells, solP, Api_Code.cells]
end
theorem solP_set5 {c : Cd} {A A' : Rw → AV} {i1 k1 i2 k2 j1 l1 : Nat} (hg : A' .g = A .g) (hf : ∀ k, k < k2 → A' (.f k) = A (.f k)) : (solP c A i1 k1 i2 k2).set 5 (outA j1 l1 (fun t => A' (.s t))) = solP c A' j1 l1 i2 k2 := by
  unfold solP
  rw [hg, outA_congr (f := fun k => A' (.f k)) (g := fun k => A (.f k)) hf]
  rfl
theorem solP_set7 {c : Cd} {A A' : Rw → AV} {i1 k1 i2 k2 j2 l2 : Nat} (hg : A' .g = A .g) (hf : ∀ k, k < k1 → A' (.s k) = A (.s k)) : (solP c A i1 k1 i2 k2).set 7 (outA j2 l2 (fun t => A' (.f t))) = solP c A' i1 k1 j2 l2 := by
  unfold solP
  rw [hg, outA_congr (f := fun k => A' (.s k)) (g := fun k => A (.s k)) hf]
  rfl
theorem solP_len (c : Cd) (A : Rw → AV) (i1 k1 i2 k2 : Nat) : (solP c A i1 k1 i2 k2).length = 9 := rfl
theorem solve_6 {c : Cd} (wc : WfC c) {h h0 : AHeap} {sid i0 i2 : Nat} {A0 : Rw → AV} (B0 : BuildAt h h0 sid c A0 i0 0 i2 0) (Q : AExit → Fr → AHeap → Prop)
    (hQ : ∀ hh A i1, BuildAt h hh sid c A i1 (slL c.Threads).length i2 0 → Q (.exit 0) (frOf [(1, .iptr c.cells), (2, .ptr h.next 0), (3, .ptr sid 0)]) hh) :
    WP Tryd.prog 114 (.loop c_pts_Solve_6) (frOf [(1, .iptr c.cells), (2, .ptr h.next 0), (3, .ptr sid 0), (29, slAV 3 Api_Body.cells c.Threads), (30, .int .i64 (slL c.Threads).length), (31, .int .i64 0)]) h0 Q := by
  have ht := wc.thr
  obtain ⟨I, hI⟩ : ∃ I : Nat → Fr → AHeap → Prop, I = (fun n fr hh => ∃ (k : Nat) (A : Rw → AV) (i1 : Nat), n = (slL c.Threads).length - k ∧ k ≤ (slL c.Threads).length ∧ BuildAt h hh sid c A i1 k i2 0 ∧ fr = frOf [(1, .iptr c.cells), (2, .ptr h.next 0), (3, .ptr sid 0), (29, slAV 3 Api_Body.cells c.Threads), (30, .int .i64 (slL c.Threads).length), (31, .int .i64 k)]) := ⟨_, rfl⟩
  refine WP_loop mixed_ (by kernel_rfl) I (slL c.Threads).length (by rw [hI]; exact ⟨0, A0, i0, rfl, Nat.zero_le _, B0, rfl⟩) ?_
  intro n fr hh hi
  rw [hI] at hi
  obtain ⟨k, A, i1, rfl, hk, B, rfl⟩ := hi
  apply pts_Solve_loop6
  (repeat simp -dsimp -implicitDefEqProofs (disch := omega) only [↓rP, rQ, rO, rL, ↓reduceIte, Nat.reduceEqDiff, Nat.reduceAdd, Nat.reduceLeDiff, pBuild, fillA, ↓tyr])
  refine Split_lt (fun hkl => ?_) (fun hkl => ?_)
  · obtain ⟨b, hb⟩ : ∃ b, (slL c.Threads)[k]? = some b := ⟨_, List.getElem?_eq_getElem (by omega)⟩
    have hsl := (wc.slo k b hb).1
    have hlen : lenR c (.s k) = (slL b.Slots).length := lenR_s hb
    have B1 := B.mono (Keeps.one hh (.row 51 b.cells))
    have hln : (hh.push (.row 51 b.cells)).next = hh.next + 1 := rfl
    obtain ⟨H1, hH1⟩ : ∃ H1, H1 = hh.push (.row 51 b.cells) := ⟨_, rfl⟩
    have ldb : ∀ K : AV → Prop, pLoad none (.ptr hh.next 0) H1 K = K (slAV 3 Api_Local.cells b.Slots) := fun K => by rw [hH1, pLoad_push, Api_Body.c0]
    (repeat simp -dsimp -implicitDefEqProofs (disch := omega) only [↓rP, rQ, rO, rL, ↓reduceIte, Nat.reduceEqDiff, Nat.reduceAdd, Nat.reduceLeDiff, pBuild, fillA, ↓tyr, pIndexAddr_slAV hb])
    rw [← hH1] at B1 hln ⊢
    have ld1 : ∀ (off : Nat) (q : Option Nat) (K : AV → Prop), pLoad q (.ptr sid off) H1 K = pCells q (solP c A i1 k i2 0) off K := fun off q K => pLoad_ptr B1.obj q K
    (repeat simp -dsimp -implicitDefEqProofs (disch := omega) only [↓rP, rQ, rO, rL, ↓reduceIte, Nat.reduceEqDiff, Nat.reduceAdd, Nat.reduceLeDiff, pBuild, fillA, ↓tyr, ldb, ld1, solP_5])
    rw [mk_row _ (by omega)]
    have ld2 : ∀ (o : AObj) (off : Nat) (q : Option Nat) (K : AV → Prop), pLoad q (.ptr sid off) (H1.push o) K = pCells q (solP c A i1 k i2 0) off K := fun o off q K => pLoad_ptr (by rw [push_old B1.lt]; exact B1.obj) q K
    (repeat simp -dsimp -implicitDefEqProofs (disch := omega) only [↓rP, rQ, rO, rL, ↓reduceIte, Nat.reduceEqDiff, Nat.reduceAdd, Nat.reduceLeDiff, pBuild, fillA, ↓tyr, ld2, solP_5, bsl_sl])
    obtain ⟨A', hA'⟩ : ∃ A' : Rw → AV, A' = fun r => if r = .s k then .sl H1.next 0 (lenR c (.s k)) 1 else A r := ⟨_, rfl⟩
    have hold : ∀ {r}, r ≠ .s k → A' r = A r := fun e => by rw [hA']; simp only; rw [if_neg e]
    have t1 : k = 0 ∨ (h.next < i1 ∧ i1 < H1.next ∧ H1.objs i1 = some (.tok 27 k)) := by
      rcases B1.t1 with e | e | e
      · exact Or.inl e
      · omega
      · exact Or.inr e
    rw [← hlen]
    refine outA_more (f := fun t => A' (.s t)) (fun j hj => (hold (by simp; omega)).symm) (by rw [hA']; simp) (by omega) ?_ ?_
    · rcases t1 with e | ⟨g1, g2, g3⟩
      · exact Or.inl e
      · exact Or.inr ⟨by simp; omega, by rw [push_old g2]; exact g3⟩
    intro hC c1 c2 c3
    have oS : hC.objs sid = some (.row 74 (solP c A i1 k i2 0)) := by
      rw [c3.objs sid (by have := B1.lt; simp; omega) ?_, push_old B1.lt]; exact B1.obj
      rintro ⟨rfl, h0⟩
      rcases t1 with e | ⟨g1, g2, g3⟩
      · omega
      · rw [B1.obj] at g3; simp at g3
    (repeat simp -dsimp -implicitDefEqProofs (disch := omega) only [↓rP, rQ, rO, rL, ↓reduceIte, Nat.reduceEqDiff, Nat.reduceAdd, Nat.reduceLeDiff, pBuild, fillA, ↓tyr])
    rw [pStore_ptr oS (outA_leafy _ _ _) (by rw [solP_len]; decide), solP_set5 (hold (by simp)) (fun j hj => hold (by simp))]
    (repeat simp -dsimp -implicitDefEqProofs (disch := omega) only [↓rP, rQ, rO, rL, ↓reduceIte, Nat.reduceEqDiff, Nat.reduceAdd, Nat.reduceLeDiff, pBuild, fillA, ↓tyr, wkS k (by omega)])
    have hm := B1.more (r0 := .s k) (A' := A') (j1 := H1.next + 1) (l1 := k + 1) (j2 := i2) (l2 := 0) (by simp [inB]) (fun r => by
        cases r with
        | g => simp [inB]
        | s t => simp [inB]; omega
        | f t => simp [inB]) hA' c3 (by
        rintro x ⟨rfl, h0⟩
        rcases t1 with e | ⟨g1, g2, g3⟩
        · omega
        · exact ⟨g1, g2, _, g3⟩) (Or.inr (Or.inr ⟨by have := B1.gt; have := B1.lt; omega, by rw [c2]; simp, c1⟩)) (Or.inl rfl)
    rw [loopPost_normal, hI]
    exact ⟨_, by omega, k + 1, A', _, rfl, by omega, hm, rfl⟩
  · (repeat simp -dsimp -implicitDefEqProofs (disch := omega) only [↓rP, rQ, rO, rL, ↓reduceIte, Nat.reduceEqDiff, Nat.reduceAdd, Nat.reduceLeDiff, pBuild, fillA, ↓tyr])
    have : k = (slL c.Threads).length := by omega
    subst this
    exact hQ hh A i1 B
end Go.Proofs.YtopfjochppdnfaaDoor
end

section
/- How the solver's rows of fields are laid. -/
set_option maxRecDepth 8000
set_option maxHeartbeats 1000000
namespace Go.Proofs.YtopfjochppdnfaaDoor
open Go.Abs
theorem recL_neg {c : Cd} {n : Int} (h : n < 0) : recL c n = [] := by
  unfold recL getI
  rw [if_neg (by omega)]
theorem lenR_fk {c : Cd} {k : Nat} {s : Api_Site} (hk : (slL c.Sites)[k]? = some s) : lenR c (.f k) = (recL c s.Rec).length := by simp [lenR, hk]
theorem mk_row0 (h : AHeap) (K : AV → AHeap → Prop) : pMakeSl { e := 23, sz := 1, by_ := 8 } [.int .u64 0] (.int .i64 0) (.int .i64 0) h K = K (.sl h.next 0 0 1) (h.push (.row 23 (rowC (fun _ => 0) 0))) := mk_row 0 (by omega) h K
theorem field_more {c : Cd} (wc : WfC c) {h H1 : AHeap} {sid i1 i2 k : Nat} {A A' : Rw → AV} (hk : k < (slL c.Sites).length) (B1 : BuildAt h H1 sid c A i1 (slL c.Threads).length i2 k) (hA' : A' = fun r => if r = .f k then .sl H1.next 0 (lenR c (.f k)) 1 else A r) (K : AV → AHeap → Prop)
    (hK : ∀ hC, hC.objs sid = some (.row 74 (solP c A i1 (slL c.Threads).length i2 k)) →
      BuildAt h (hC.put sid (.row 74 (solP c A' i1 (slL c.Threads).length (H1.next + 1) (k + 1)))) sid c A' i1 (slL c.Threads).length (H1.next + 1) (k + 1) → K (outA (H1.next + 1) (k + 1) (fun t => A' (.f t))) hC) :
    pAppend true { e := 27, sz := 1, by_ := 24 } (outA i2 k (fun t => A (.f t))) (.isl 1 [[.sl H1.next 0 (lenR c (.f k)) 1]]) (H1.push (.row 23 (rowC (fun _ => 0) (lenR c (.f k))))) K := by
  have hs := wc.sit
  have hold : ∀ {r}, r ≠ .f k → A' r = A r := fun e => by rw [hA']; simp only; rw [if_neg e]
  have t2 := B1.t2
  refine outA_more (f := fun t => A' (.f t)) (fun j hj => (hold (by simp; omega)).symm) (by rw [hA']; simp) (by omega) ?_ ?_
  · rcases t2 with e | ⟨g1, g2, g3⟩
    · exact Or.inl e
    · exact Or.inr ⟨by simp; omega, by rw [push_old g2]; exact g3⟩
  intro hC c1 c2 c3
  have oS : hC.objs sid = some (.row 74 (solP c A i1 (slL c.Threads).length i2 k)) := by
    rw [c3.objs sid (by have := B1.lt; simp; omega) ?_, push_old B1.lt]; exact B1.obj
    rintro ⟨rfl, h0⟩
    rcases t2 with e | ⟨g1, g2, g3⟩
    · omega
    · rw [B1.obj] at g3; simp at g3
  refine hK hC oS ?_
  exact B1.more (r0 := .f k) (A' := A') (j1 := i1) (l1 := (slL c.Threads).length) (j2 := H1.next + 1) (l2 := k + 1) (by simp [inB]) (fun r => by
      cases r with
      | g => simp [inB]
      | s t => simp [inB]
      | f t => simp [inB]; omega) hA' c3 (by
      rintro x ⟨rfl, h0⟩
      rcases t2 with e | ⟨g1, g2, g3⟩
      · omega
      · exact ⟨g1, g2, _, g3⟩) (Or.inr (Or.inl rfl)) (Or.inr ⟨by have := B1.gt; have := B1.lt; omega, by rw [c2]; simp, c1⟩)
theorem solve_11 {c : Cd} (wc : WfC c) {h h0 : AHeap} {sid i1 i0 : Nat} {A0 : Rw → AV} (B0 : BuildAt h h0 sid c A0 i1 (slL c.Threads).length i0 0) (Q : AExit → Fr → AHeap → Prop)
    (hQ : ∀ hh A i2, BuildAt h hh sid c A i1 (slL c.Threads).length i2 (slL c.Sites).length → Q (.exit 2) (frOf [(1, .iptr c.cells), (2, .ptr h.next 0), (3, .ptr sid 0)]) hh) :
    WP Tryd.prog 114 (.loop c_pts_Solve_11) (frOf [(1, .iptr c.cells), (2, .ptr h.next 0), (3, .ptr sid 0), (52, slAV 3 Api_Site.cells c.Sites), (53, .int .i64 (slL c.Sites).length), (54, .int .i64 0)]) h0 Q := by
  have hs := wc.sit
  obtain ⟨I, hI⟩ : ∃ I : Nat → Fr → AHeap → Prop, I = (fun n fr hh => ∃ (k : Nat) (A : Rw → AV) (i2 : Nat), n = (slL c.Sites).length - k ∧ k ≤ (slL c.Sites).length ∧ BuildAt h hh sid c A i1 (slL c.Threads).length i2 k ∧ fr = frOf [(1, .iptr c.cells), (2, .ptr h.next 0), (3, .ptr sid 0), (52, slAV 3 Api_Site.cells c.Sites), (53, .int .i64 (slL c.Sites).length), (54, .int .i64 k)]) := ⟨_, rfl⟩
  refine WP_loop mixed_ (by kernel_rfl) I (slL c.Sites).length (by rw [hI]; exact ⟨0, A0, i0, rfl, Nat.zero_le _, B0, rfl⟩) ?_
  intro n fr hh hi
  rw [hI] at hi
  obtain ⟨k, A, i2, rfl, hk, B, rfl⟩ := hi
  apply pts_Solve_loop11
  (repeat simp -dsimp -implicitDefEqProofs (disch := omega) only [↓rP, rQ, rO, rL, ↓reduceIte, Nat.reduceEqDiff, Nat.reduceAdd, Nat.reduceLeDiff, pBuild, fillA, ↓tyr])
  refine Split_lt (fun hkl => ?_) (fun hkl => ?_)
  · obtain ⟨s, hb⟩ : ∃ s, (slL c.Sites)[k]? = some s := ⟨_, List.getElem?_eq_getElem (by omega)⟩
    have hlen := lenR_fk hb
    have B1 := B.mono (Keeps.one hh (.row 54 s.cells))
    obtain ⟨H1, hH1⟩ : ∃ H1, H1 = hh.push (.row 54 s.cells) := ⟨_, rfl⟩
    have lds : ∀ K : AV → Prop, pLoad none (.ptr hh.next 2) H1 K = K (.int .i64 s.Rec) := fun K => by rw [hH1, pLoad_push, Api_Site.c2]
    (repeat simp -dsimp -implicitDefEqProofs (disch := omega) only [↓rP, rQ, rO, rL, ↓reduceIte, Nat.reduceEqDiff, Nat.reduceAdd, Nat.reduceLeDiff, pBuild, fillA, ↓tyr, pIndexAddr_slAV hb])
    rw [← hH1] at B1 ⊢
    have ld1 : ∀ (off : Nat) (q : Option Nat) (K : AV → Prop), pLoad q (.ptr sid off) H1 K = pCells q (solP c A i1 (slL c.Threads).length i2 k) off K := fun off q K => pLoad_ptr B1.obj q K
    have ld2 : ∀ (o : AObj) (off : Nat) (q : Option Nat) (K : AV → Prop), pLoad q (.ptr sid off) (H1.push o) K = pCells q (solP c A i1 (slL c.Threads).length i2 k) off K := fun o off q K => pLoad_ptr (by rw [push_old B1.lt]; exact B1.obj) q K
    obtain ⟨A', hA'⟩ : ∃ A' : Rw → AV, A' = fun r => if r = .f k then .sl H1.next 0 (lenR c (.f k)) 1 else A r := ⟨_, rfl⟩
    have hold : ∀ {r}, r ≠ .f k → A' r = A r := fun e => by rw [hA']; simp only; rw [if_neg e]
    (repeat simp -dsimp -implicitDefEqProofs (disch := omega) only [↓rP, rQ, rO, rL, ↓reduceIte, Nat.reduceEqDiff, Nat.reduceAdd, Nat.reduceLeDiff, pBuild, fillA, ↓tyr, lds])
    refine Split_le (fun hr => ?_) (fun hr => ?_)
    · obtain ⟨rr, hrr⟩ : ∃ rr, getI (slL c.Records) s.Rec = some rr := by
        rcases wc.site k s hb with e | e
        · omega
        · exact e
      have hl2 : lenR c (.f k) = (slL rr).length := by rw [hlen]; simp only [recL, hrr]
      have hr6 := wc.recs rr (getI_mem hrr)
      (repeat simp -dsimp -implicitDefEqProofs (disch := omega) only [↓rP, rQ, rO, rL, ↓reduceIte, Nat.reduceEqDiff, Nat.reduceAdd, Nat.reduceLeDiff, pBuild, fillA, ↓tyr, lds, ixI hrr, ld_one, ld1, solP_7])
      rw [mk_row _ (by omega)]
      (repeat simp -dsimp -implicitDefEqProofs (disch := omega) only [↓rP, rQ, rO, rL, ↓reduceIte, Nat.reduceEqDiff, Nat.reduceAdd, Nat.reduceLeDiff, pBuild, fillA, ↓tyr, ld2, solP_7, bsl_sl])
      rw [← hl2]
      refine field_more wc (by omega) B1 hA' _ ?_
      intro hC oS B2
      (repeat simp -dsimp -implicitDefEqProofs (disch := omega) only [↓rP, rQ, rO, rL, ↓reduceIte, Nat.reduceEqDiff, Nat.reduceAdd, Nat.reduceLeDiff, pBuild, fillA, ↓tyr])
      rw [pStore_ptr oS (outA_leafy _ _ _) (by rw [solP_len]; decide), solP_set7 (hold (by simp)) (fun j hj => hold (by simp))]
      (repeat simp -dsimp -implicitDefEqProofs (disch := omega) only [↓rP, rQ, rO, rL, ↓reduceIte, Nat.reduceEqDiff, Nat.reduceAdd, Nat.reduceLeDiff, pBuild, fillA, ↓tyr, wkS k (by omega)])
      rw [loopPost_normal, hI]
      exact ⟨_, by omega, k + 1, A', _, rfl, by omega, B2, rfl⟩
    · have hl2 : lenR c (.f k) = 0 := by rw [hlen, recL_neg (by omega)]; rfl
      (repeat simp -dsimp -implicitDefEqProofs (disch := omega) only [↓rP, rQ, rO, rL, ↓reduceIte, Nat.reduceEqDiff, Nat.reduceAdd, Nat.reduceLeDiff, pBuild, fillA, ↓tyr, ld1, solP_7, mk_row0, ld2, bsl_sl])
      have hfm := fun K hK => field_more wc (by omega) B1 hA' K hK
      rw [hl2] at hfm
      refine hfm _ ?_
      intro hC oS B2
      (repeat simp -dsimp -implicitDefEqProofs (disch := omega) only [↓rP, rQ, rO, rL, ↓reduceIte, Nat.reduceEqDiff, Nat.reduceAdd, Nat.reduceLeDiff, pBuild, fillA, ↓tyr])
      rw [pStore_ptr oS (outA_leafy _ _ _) (by rw [solP_len]; decide), solP_set7 (hold (by simp)) (fun j hj => hold (by simp))]
      (repeat simp -dsimp -implicitDefEqProofs (disch := omega) only [↓rP, rQ, rO, rL, ↓reduceIte, Nat.reduceEqDiff, Nat.reduceAdd, Nat.reduceLeDiff, pBuild, fillA, ↓tyr, wkS k (by omega)])
      rw [loopPost_normal, hI]
      exact ⟨_, by omega, k + 1, A', _, rfl, by omega, B2, rfl⟩
  · (repeat simp -dsimp -implicitDefEqProofs (disch := omega) only [↓rP, rQ, rO, rL, ↓reduceIte, Nat.reduceEqDiff, Nat.reduceAdd, Nat.reduceLeDiff, pBuild, fillA, ↓tyr])
    have : k = (slL c.Sites).length := by omega
    subst this
    exact hQ hh A i2 B
end Go.Proofs.YtopfjochppdnfaaDoor
end

section
/- The solver at work: passes until nothing grows. -/
set_option maxRecDepth 8000
set_option maxHeartbeats 1000000
namespace Go.Proofs.YtopfjochppdnfaaDoor
open Go.Abs
structure PassI (c : Cd) (σ0 σ : Sg) (gr : Bool) (done : Nat → Nat → Prop) : Prop where
  le : Le σ0 σ
  lw : Lw c σ
  bd : Bd2 c σ
  rg : Rg c σ
  gr : gr = true ↔ σ ≠ σ0
  cl : σ = σ0 → ∀ (t : Nat) (b : Bd) (a : Nat) (x : In), (slL c.Threads)[t]? = some b → (slL b.Code)[a]? = some x → done t a → Le (contr c t x σ0) σ0
theorem PassI.step {c : Cd} {σ0 σ : Sg} {gr gr' : Bool} {done : Nat → Nat → Prop} (P : PassI c σ0 σ gr done) (wc : WfC c) {t a : Nat} {b : Bd} {x : In} (hb : (slL c.Threads)[t]? = some b) (hx : (slL b.Code)[a]? = some x) (hg : gr' = true ↔ gr = true ∨ stepS c t x σ ≠ σ) :
    PassI c σ0 (stepS c t x σ) gr' (fun t' a' => done t' a' ∨ (t' = t ∧ a' = a)) := by
  have w := wc.ins t a b x hb hx
  have hle := le_step c t x σ
  refine ⟨P.le.trans hle, P.lw.step hb hx, P.bd.step w t, P.rg.step hb w, ?_, ?_⟩
  · rw [hg, P.gr, grew_trans P.le hle]
  · intro e t' b' a' x' hb' hx' hd
    have e0 : σ = σ0 := Le.anti (by rw [← e]; exact hle) P.le
    rcases hd with hd | ⟨rfl, rfl⟩
    · exact P.cl e0 t' b' a' x' hb' hx' hd
    · rw [hb] at hb'; cases hb'
      rw [hx] at hx'; cases hx'
      subst e0
      exact step_id e
theorem PassI.weak {c : Cd} {σ0 σ : Sg} {gr : Bool} {done d2 : Nat → Nat → Prop} (P : PassI c σ0 σ gr done) (h : ∀ (t : Nat) (b : Bd) (a : Nat) (x : In), (slL c.Threads)[t]? = some b → (slL b.Code)[a]? = some x → d2 t a → done t a) : PassI c σ0 σ gr d2 :=
  ⟨P.le, P.lw, P.bd, P.rg, P.gr, fun e t b a x hb hx hd => P.cl e t b a x hb hx (h t b a x hb hx hd)⟩
structure SV (h hh : AHeap) (sid : Nat) (c : Cd) (σ : Sg) (A : Rw → AV) (i1 i2 : Nat) (gr : Bool) : Prop where
  sol : SolAt hh sid c σ A i1 i2 gr
  own : ∀ i, Own sid c A i → h.next < i
  res : hh.objs h.next = some (.row 29 [.nils, .nils, .nils])
  nx : h.next < hh.next
  keep : Keeps h hh (fun _ => False)
theorem SV.mono {h hh h2 : AHeap} {sid : Nat} {c : Cd} {σ : Sg} {A : Rw → AV} {i1 i2 : Nat} {gr : Bool} (s : SV h hh sid c σ A i1 i2 gr) (k : Keeps hh h2 (fun _ => False)) : SV h h2 sid c σ A i1 i2 gr :=
  ⟨s.sol.keep k, s.own, by rw [k.objs _ s.nx (fun h => h)]; exact s.res, Nat.lt_of_lt_of_le s.nx k.next, s.keep.go k⟩
theorem SV.step {h hh h2 : AHeap} {sid : Nat} {c : Cd} {σ τ : Sg} {A : Rw → AV} {i1 i2 : Nat} {gr : Bool} (s : SV h hh sid c σ A i1 i2 gr) (q : StepQ hh sid c σ τ A i1 i2 gr h2) : ∃ gr', (gr' = true ↔ gr = true ∨ τ ≠ σ) ∧ SV h h2 sid c τ A i1 i2 gr' := by
  obtain ⟨gr', q1, q2, q3⟩ := q
  refine ⟨gr', q1, q2, s.own, ?_, Nat.lt_of_lt_of_le s.nx q3.next, ?_⟩
  · rw [q3.objs _ s.nx (fun ho => by have := s.own _ ho; omega)]; exact s.res
  · refine s.keep.trans (T := fun i => h.next < i) (q3.mono s.own) (fun i hi h => by omega)
theorem solve_24 {c : Cd} (hc : c.ok) (wc : WfC c) {h h0 : AHeap} {sid i1 i2 k : Nat} {A : Rw → AV} {σ0 σ1 : Sg} {g1 : Bool} {b : Bd} (hb : (slL c.Threads)[k]? = some b) (S0 : SV h h0 sid c σ1 A i1 i2 g1) (P0 : PassI c σ0 σ1 g1 (fun t _ => t < k)) (Q : AExit → Fr → AHeap → Prop)
    (hQ : ∀ hh σ gr, SV h hh sid c σ A i1 i2 gr → PassI c σ0 σ gr (fun t _ => t < k + 1) → Q (.exit 8) (frOf [(1, .iptr c.cells), (2, .ptr h.next 0), (3, .ptr sid 0), (90, slAV 3 Api_Body.cells c.Threads), (91, .int .i64 (slL c.Threads).length), (92, .int .i64 k)]) hh) :
    WP Tryd.prog 114 (.loop c_pts_Solve_24) (frOf [(1, .iptr c.cells), (2, .ptr h.next 0), (3, .ptr sid 0), (9, .int .i64 k), (90, slAV 3 Api_Body.cells c.Threads), (91, .int .i64 (slL c.Threads).length), (92, .int .i64 k), (98, slAV 8 Api_Instr.cells b.Code), (99, .int .i64 (slL b.Code).length), (100, .int .i64 0)]) h0 Q := by
  have hcl := (wc.slo k b hb).2
  obtain ⟨I, hI⟩ : ∃ I : Nat → Fr → AHeap → Prop, I = (fun n fr hh => ∃ (a : Nat) (σ : Sg) (gr : Bool), n = (slL b.Code).length - a ∧ a ≤ (slL b.Code).length ∧ SV h hh sid c σ A i1 i2 gr ∧ PassI c σ0 σ gr (fun t' a' => t' < k ∨ (t' = k ∧ a' < a)) ∧ fr = frOf [(1, .iptr c.cells), (2, .ptr h.next 0), (3, .ptr sid 0), (9, .int .i64 k), (90, slAV 3 Api_Body.cells c.Threads), (91, .int .i64 (slL c.Threads).length), (92, .int .i64 k), (98, slAV 8 Api_Instr.cells b.Code), (99, .int .i64 (slL b.Code).length), (100, .int .i64 a)]) := ⟨_, rfl⟩
  refine WP_loop mixed_ (by kernel_rfl) I (slL b.Code).length (by rw [hI]; exact ⟨0, σ1, g1, rfl, Nat.zero_le _, S0, P0.weak (fun t _ a _ _ _ hd => by omega), rfl⟩) ?_
  intro n fr hh hi
  rw [hI] at hi
  obtain ⟨a, σ, gr, rfl, ha, S, P, rfl⟩ := hi
  apply pts_Solve_loop24
  (repeat simp -dsimp -implicitDefEqProofs (disch := omega) only [↓rP, rQ, rO, rL, ↓reduceIte, Nat.reduceEqDiff, Nat.reduceAdd, Nat.reduceLeDiff, pBuild, fillA, ↓tyr])
  refine Split_lt (fun hkl => ?_) (fun hkl => ?_)
  · obtain ⟨x, hx⟩ : ∃ x, (slL b.Code)[a]? = some x := ⟨_, List.getElem?_eq_getElem (by omega)⟩
    have hxo : x.ok := (hc.2.2.1.2 b (List.mem_of_getElem? hb)).2.1.2 x (List.mem_of_getElem? hx)
    have S1 := S.mono (Keeps.one hh (.row 58 x.cells))
    (repeat simp -dsimp -implicitDefEqProofs (disch := omega) only [↓rP, rQ, rO, rL, ↓reduceIte, Nat.reduceEqDiff, Nat.reduceAdd, Nat.reduceLeDiff, pBuild, fillA, ↓tyr, pIndexAddr_slAV hx])
    refine (step_does S1.sol wc P.bd hb (wc.ins k a b x hb hx) hxo.2.2.2.2.2.2.1).mono ?_
    rintro _ h2 ⟨rfl, q⟩
    obtain ⟨gr', q1, S2⟩ := S1.step q
    (repeat simp -dsimp -implicitDefEqProofs (disch := omega) only [↓rP, rQ, rO, rL, ↓reduceIte, Nat.reduceEqDiff, Nat.reduceAdd, Nat.reduceLeDiff, pBuild, fillA, ↓tyr, wkS a (by omega)])
    rw [loopPost_normal, hI]
    exact ⟨_, by omega, a + 1, _, gr', rfl, by omega, S2, (P.step wc hb hx q1).weak (fun t _ a' _ _ _ hd => by omega), rfl⟩
  · (repeat simp -dsimp -implicitDefEqProofs (disch := omega) only [↓rP, rQ, rO, rL, ↓reduceIte, Nat.reduceEqDiff, Nat.reduceAdd, Nat.reduceLeDiff, pBuild, fillA, ↓tyr])
    have : a = (slL b.Code).length := by omega
    subst this
    refine hQ hh σ gr S (P.weak fun t b' a' x' hb' hx' hd => ?_)
    by_cases e : t = k
    · subst e
      rw [hb] at hb'; cases hb'
      exact Or.inr ⟨rfl, (List.getElem?_eq_some_iff.1 hx').1⟩
    · left; omega
theorem solve_21 {c : Cd} (hc : c.ok) (wc : WfC c) {h h0 : AHeap} {sid i1 i2 : Nat} {A : Rw → AV} {σ0 : Sg} (S0 : SV h h0 sid c σ0 A i1 i2 false) (hl : Lw c σ0) (hbd : Bd2 c σ0) (hrg : Rg c σ0) (Q : AExit → Fr → AHeap → Prop)
    (hQ : ∀ hh σ gr, SV h hh sid c σ A i1 i2 gr → PassI c σ0 σ gr (fun _ _ => True) → Q (.exit 6) (frOf [(1, .iptr c.cells), (2, .ptr h.next 0), (3, .ptr sid 0)]) hh) :
    WP Tryd.prog 114 (.loop c_pts_Solve_21) (frOf [(1, .iptr c.cells), (2, .ptr h.next 0), (3, .ptr sid 0), (90, slAV 3 Api_Body.cells c.Threads), (91, .int .i64 (slL c.Threads).length), (92, .int .i64 0)]) h0 Q := by
  have ht := wc.thr
  obtain ⟨I, hI⟩ : ∃ I : Nat → Fr → AHeap → Prop, I = (fun n fr hh => ∃ (k : Nat) (σ : Sg) (gr : Bool), n = (slL c.Threads).length - k ∧ k ≤ (slL c.Threads).length ∧ SV h hh sid c σ A i1 i2 gr ∧ PassI c σ0 σ gr (fun t' _ => t' < k) ∧ fr = frOf [(1, .iptr c.cells), (2, .ptr h.next 0), (3, .ptr sid 0), (90, slAV 3 Api_Body.cells c.Threads), (91, .int .i64 (slL c.Threads).length), (92, .int .i64 k)]) := ⟨_, rfl⟩
  refine WP_loop mixed_ (by kernel_rfl) I (slL c.Threads).length (by rw [hI]; exact ⟨0, σ0, false, rfl, Nat.zero_le _, S0, ⟨Le.refl _, hl, hbd, hrg, by simp, fun _ t _ _ _ _ _ hd => by omega⟩, rfl⟩) ?_
  intro n fr hh hi
  rw [hI] at hi
  obtain ⟨k, σ, gr, rfl, hk, S, P, rfl⟩ := hi
  apply pts_Solve_loop21
  (repeat simp -dsimp -implicitDefEqProofs (disch := omega) only [↓rP, rQ, rO, rL, ↓reduceIte, Nat.reduceEqDiff, Nat.reduceAdd, Nat.reduceLeDiff, pBuild, fillA, ↓tyr])
  refine Split_lt (fun hkl => ?_) (fun hkl => ?_)
  · obtain ⟨b, hb⟩ : ∃ b, (slL c.Threads)[k]? = some b := ⟨_, List.getElem?_eq_getElem (by omega)⟩
    have S1 := S.mono (Keeps.one hh (.row 51 b.cells))
    (repeat simp -dsimp -implicitDefEqProofs (disch := omega) only [↓rP, rQ, rO, rL, ↓reduceIte, Nat.reduceEqDiff, Nat.reduceAdd, Nat.reduceLeDiff, pBuild, fillA, ↓tyr, pIndexAddr_slAV hb])
    refine solve_24 hc wc hb S1 P _ ?_
    intro h2 σ2 g2 S2 P2
    (repeat simp -dsimp -implicitDefEqProofs (disch := omega) only [↓rP, rQ, rO, rL, ↓reduceIte, Nat.reduceEqDiff, Nat.reduceAdd, Nat.reduceLeDiff, pBuild, fillA, ↓tyr, wkS k (by omega)])
    rw [loopPost_normal, hI]
    exact ⟨_, by omega, k + 1, σ2, g2, rfl, by omega, S2, P2, rfl⟩
  · (repeat simp -dsimp -implicitDefEqProofs (disch := omega) only [↓rP, rQ, rO, rL, ↓reduceIte, Nat.reduceEqDiff, Nat.reduceAdd, Nat.reduceLeDiff, pBuild, fillA, ↓tyr])
    have : k = (slL c.Threads).length := by omega
    subst this
    exact hQ hh σ gr S (P.weak fun t b' a' x' hb' _ _ => (List.getElem?_eq_some_iff.1 hb').1)
theorem solve_18 {c : Cd} (hc : c.ok) (wc : WfC c) {h h0 : AHeap} {sid i1 i2 : Nat} {A : Rw → AV} {σ0 : Sg} (S0 : SV h h0 sid c σ0 A i1 i2 true) (hl : Lw c σ0) (hbd : Bd2 c σ0) (hrg : Rg c σ0) (Q : AExit → Fr → AHeap → Prop)
    (hQ : ∀ hh σ, SV h hh sid c σ A i1 i2 false → Cl c σ → Lw c σ → Bd2 c σ → Rg c σ → Q (.exit 4) (frOf [(2, .ptr h.next 0), (3, .ptr sid 0)]) hh) :
    WP Tryd.prog 114 (.loop c_pts_Solve_18) (frOf [(1, .iptr c.cells), (2, .ptr h.next 0), (3, .ptr sid 0)]) h0 Q := by
  obtain ⟨I, hI⟩ : ∃ I : Nat → Fr → AHeap → Prop, I = (fun n fr hh => ∃ (σ : Sg) (gr : Bool), n = leftOf c σ + (if gr = true then 1 else 0) ∧ SV h hh sid c σ A i1 i2 gr ∧ Lw c σ ∧ Bd2 c σ ∧ Rg c σ ∧ (gr = false → Cl c σ) ∧ fr = frOf [(1, .iptr c.cells), (2, .ptr h.next 0), (3, .ptr sid 0)]) := ⟨_, rfl⟩
  refine WP_loop mixed_ (by kernel_rfl) I (leftOf c σ0 + 1) (by rw [hI]; exact ⟨σ0, true, rfl, S0, hl, hbd, hrg, fun h => (by cases h), rfl⟩) ?_
  intro n fr hh hi
  rw [hI] at hi
  obtain ⟨σ, gr, rfl, S, l1, l2, l3, l4, rfl⟩ := hi
  apply pts_Solve_loop18
  (repeat simp -dsimp -implicitDefEqProofs (disch := omega) only [↓rP, rQ, rO, rL, ↓reduceIte, Nat.reduceEqDiff, Nat.reduceAdd, Nat.reduceLeDiff, pBuild, fillA, ↓tyr, S.sol.ld, solR])
  cases gr with
  | false =>
    (repeat simp -dsimp -implicitDefEqProofs (disch := omega) only [↓rP, rQ, rO, rL, ↓reduceIte, Nat.reduceEqDiff, Nat.reduceAdd, Nat.reduceLeDiff, pBuild, fillA, ↓tyr])
    exact hQ hh σ S (l4 rfl) l1 l2 l3
  | true =>
    (repeat simp -dsimp -implicitDefEqProofs (disch := omega) only [↓rP, rQ, rO, rL, ↓reduceIte, Nat.reduceEqDiff, Nat.reduceAdd, Nat.reduceLeDiff, pBuild, fillA, ↓tyr])
    rw [pStore_ptr S.sol.obj (by rfl) (by rw [solC_len]; decide), solC_grew]
    have hs := S.sol.lt
    have S1 : SV h (hh.put sid (.row 74 (solC c A i1 i2 false))) sid c σ A i1 i2 false := by
      have hsid := S.own sid (Or.inl rfl)
      refine ⟨⟨S.sol.sets.keep (S := fun i => i = sid) ⟨Nat.le_refl _, fun i _ hi => put_old hi _⟩ (fun r id e h => S.sol.ne r (h ▸ e)), put_new _ _ _, S.sol.lt, S.sol.ne⟩, S.own, ?_, S.nx, ?_⟩
      · rw [put_old (by omega)]; exact S.res
      · exact S.keep.putNew (by omega) _
    (repeat simp -dsimp -implicitDefEqProofs (disch := omega) only [↓rP, rQ, rO, rL, ↓reduceIte, Nat.reduceEqDiff, Nat.reduceAdd, Nat.reduceLeDiff, pBuild, fillA, ↓tyr])
    refine solve_21 hc wc S1 l1 l2 l3 _ ?_
    intro h2 σ2 g2 S2 P2
    (repeat simp -dsimp -implicitDefEqProofs (disch := omega) only [↓rP, rQ, rO, rL, ↓reduceIte, Nat.reduceEqDiff, Nat.reduceAdd, Nat.reduceLeDiff, pBuild, fillA, ↓tyr])
    rw [loopPost_normal, hI]
    refine ⟨leftOf c σ2 + (if g2 = true then 1 else 0), ?_, σ2, g2, rfl, S2, P2.lw, P2.bd, P2.rg, ?_, rfl⟩
    · cases g2 with
      | false =>
        have e : σ2 = σ := by
          apply Classical.byContradiction
          intro hn
          have := P2.gr.2 hn
          cases this
        rw [e]; simp
      | true =>
        have := left_lt P2.le P2.bd P2.rg (P2.gr.1 rfl)
        simp; omega
    · rintro rfl
      have e : σ2 = σ := by
        apply Classical.byContradiction
        intro hn
        have := P2.gr.2 hn
        cases this
      intro t b a x hb hx
      rw [e]
      exact P2.cl e t b a x hb hx trivial
end Go.Proofs.YtopfjochppdnfaaDoor
end

section
/- The least sets, by the program. -/
set_option maxRecDepth 8000
set_option maxHeartbeats 1000000
namespace Go.Proofs.YtopfjochppdnfaaDoor
open Go.Abs
def SolvedQ (h : AHeap) (c : Cd) (v : AV) (h2 : AHeap) : Prop :=
  (okC c = false ∧ v = .agg [.nils, .nils, .nils] ∧ Keeps h h2 (fun _ => False)) ∨
  (okC c = true ∧ ∃ σ A i1 i2, v = .agg (setsC c A i1 i2) ∧ SetsAt h2 c σ A ∧ (∀ r id, A r = .sl id 0 (lenR c r) 1 → h.next ≤ id) ∧ Cl c σ ∧ Lw c σ ∧ Bd2 c σ ∧ Rg c σ ∧ Keeps h h2 (fun _ => False))
theorem bld_sol (c : Cd) (K : AV → Prop) : pBuild [(0, 5), (5, 3), (8, 1)] [AV.nils, AV.nils, AV.nils, AV.nils, AV.nils, AV.nils, AV.nils, AV.nils, AV.bool false] [(0, .agg c.cells), (2, .bool true)] K = K (.agg (solP c (fun _ => .nils) 0 0 0 0)) := by
  simp [pBuild, fillA, Api_Code.cells, AV.fits, AV.cells, solP, outA]
def A0g (c : Cd) (id : Nat) : Rw → AV := fun r => if r = .g then .sl id 0 (lenR c .g) 1 else .nils
theorem solP_set6 (c : Cd) (id : Nat) : (solP c (fun _ => .nils) 0 0 0 0).set 6 (.sl id 0 (lenR c .g) 1) = solP c (A0g c id) 0 0 0 0 := rfl
theorem build_first (c : Cd) (h : AHeap) : BuildAt h ((((h.push (.row 29 [.nils, .nils, .nils])).push (.row 74 (solP c (fun _ => .nils) 0 0 0 0))).push (.row 23 (rowC (fun _ => 0) (lenR c .g)))).put (h.next + 1) (.row 74 (solP c (A0g c (h.next + 2)) 0 0 0 0))) (h.next + 1) c (A0g c (h.next + 2)) 0 0 0 0 := by
  have hin : ∀ r, inB 0 0 r ↔ r = .g := fun r => by cases r <;> simp [inB]
  have ag : A0g c (h.next + 2) .g = .sl (h.next + 2) 0 (lenR c .g) 1 := by simp [A0g]
  have an : ∀ r, r ≠ .g → A0g c (h.next + 2) r = .nils := fun r hr => by simp [A0g, hr]
  refine ⟨fun r hr => ?_, fun r hr => an r (fun e => hr ((hin r).2 e)), fun r r' id e e' => ?_, put_new _ _ _, by omega, by simp, Or.inl rfl, Or.inl rfl, ?_, ?_⟩
  · obtain rfl := (hin r).1 hr
    refine ⟨h.next + 2, ag, by omega, by simp, ?_⟩
    rw [put_old (by omega)]
    exact push_new _ _
  · by_cases h1 : r = .g
    · by_cases h2 : r' = .g
      · rw [h1, h2]
      · rw [an r' h2] at e'; cases e'
    · rw [an r h1] at e; cases e
  · rw [put_old (by omega), push_old (by simp; omega), push_old (by simp), push_new]
  · exact (((Keeps.one _ _).go (Keeps.one _ _)).go (Keeps.one _ _)).putNew (by omega) _
theorem Solve_does (c : Cd) (hc : c.ok) (sm : Small c) (h : AHeap) : CallsA Tryd.prog 22 [.agg c.cells] h (fun v h2 => SolvedQ h c v h2) := by
  apply pts_Solve_wp
  (repeat simp -dsimp -implicitDefEqProofs (disch := omega) only [↓rP, rQ, rO, rL, ↓reduceIte, Nat.reduceEqDiff, Nat.reduceAdd, Nat.reduceLeDiff, pBuild, fillA, ↓tyr])
  refine CallsA.go (code_Good_s c hc sm _) ?_
  cases hg : okC c with
  | false =>
    (repeat simp -dsimp -implicitDefEqProofs (disch := omega) only [↓rP, rQ, rO, rL, ↓reduceIte, Nat.reduceEqDiff, Nat.reduceAdd, Nat.reduceLeDiff, pBuild, fillA, ↓tyr])
    rw [pStore_push (by rfl) (by rfl)]
    (repeat simp -dsimp -implicitDefEqProofs (disch := omega) only [↓rP, rQ, rO, rL, ↓reduceIte, Nat.reduceEqDiff, Nat.reduceAdd, Nat.reduceLeDiff, pBuild, fillA, ↓tyr])
    exact Or.inl ⟨hg, rfl, Keeps.one _ _⟩
  | true =>
    have wc := wf_of hg
    have hgl := wc.glo
    (repeat simp -dsimp -implicitDefEqProofs (disch := omega) only [↓rP, rQ, rO, rL, ↓reduceIte, Nat.reduceEqDiff, Nat.reduceAdd, Nat.reduceLeDiff, pBuild, fillA, ↓tyr, ↓bld_sol])
    have e1 : (h.push (AObj.row 29 [AV.nils, AV.nils, AV.nils])).next = h.next + 1 := rfl
    rw [e1]
    rw [mk_row _ (by omega)]
    have e2 : ((h.push (AObj.row 29 [AV.nils, AV.nils, AV.nils])).push (AObj.row 74 (solP c (fun _ => .nils) 0 0 0 0))).next = h.next + 2 := rfl
    rw [e2]
    (repeat simp -dsimp -implicitDefEqProofs (disch := omega) only [↓rP, rQ, rO, rL, ↓reduceIte, Nat.reduceEqDiff, Nat.reduceAdd, Nat.reduceLeDiff, pBuild, fillA, ↓tyr])
    have hlg : (slL c.Globals).length = lenR c .g := rfl
    rw [hlg]
    have ob : (((h.push (AObj.row 29 [AV.nils, AV.nils, AV.nils])).push (AObj.row 74 (solP c (fun _ => .nils) 0 0 0 0))).push (AObj.row 23 (rowC (fun _ => 0) (lenR c .g)))).objs (h.next + 1) = some (AObj.row 74 (solP c (fun _ => .nils) 0 0 0 0)) := by
      rw [push_old (by simp), ← e1, push_new]
    rw [pStore_ptr ob (by rfl) (by rw [solP_len]; decide), solP_set6]
    have B0 := build_first c h
    generalize ((((h.push (.row 29 [.nils, .nils, .nils])).push (.row 74 (solP c (fun _ => .nils) 0 0 0 0))).push (.row 23 (rowC (fun _ => 0) (lenR c .g)))).put (h.next + 1) (.row 74 (solP c (A0g c (h.next + 2)) 0 0 0 0))) = H at B0 ⊢
    (repeat simp -dsimp -implicitDefEqProofs (disch := omega) only [↓rP, rQ, rO, rL, ↓reduceIte, Nat.reduceEqDiff, Nat.reduceAdd, Nat.reduceLeDiff, pBuild, fillA, ↓tyr])
    refine solve_6 wc B0 _ ?_
    intro H2 A1 i1 B1
    (repeat simp -dsimp -implicitDefEqProofs (disch := omega) only [↓rP, rQ, rO, rL, ↓reduceIte, Nat.reduceEqDiff, Nat.reduceAdd, Nat.reduceLeDiff, pBuild, fillA, ↓tyr])
    refine solve_11 wc B1 _ ?_
    intro H3 A i2 B2
    obtain ⟨S, own⟩ := B2.start
    have SV0 : SV h H3 (h.next + 1) c (fun _ _ => 0) A i1 i2 true := ⟨S, own, B2.res, by have := B2.gt; have := B2.lt; omega, B2.keep⟩
    (repeat simp -dsimp -implicitDefEqProofs (disch := omega) only [↓rP, rQ, rO, rL, ↓reduceIte, Nat.reduceEqDiff, Nat.reduceAdd, Nat.reduceLeDiff, pBuild, fillA, ↓tyr])
    refine solve_18 hc wc SV0 (fun τ _ r n i hi => by simp at hi) (fun r n i hi => by simp at hi) (fun r n hn => absurd rfl hn) _ ?_
    intro H4 σ S4 l1 l2 l3 l4
    have ls : ∀ K : AV → Prop, pLoad (some 3) (.ptr (h.next + 1) 5) H4 K = K (.agg (setsC c A i1 i2)) := fun K => by rw [S4.sol.ld]; exact solC_sets c A i1 i2 false K
    (repeat simp -dsimp -implicitDefEqProofs (disch := omega) only [↓rP, rQ, rO, rL, ↓reduceIte, Nat.reduceEqDiff, Nat.reduceAdd, Nat.reduceLeDiff, pBuild, fillA, ↓tyr, ↓ls])
    have hst : ∀ K : AHeap → Prop, pStore 3 (.ptr h.next 0) (.agg (setsC c A i1 i2)) H4 K = K (H4.put h.next (.row 29 (setsC c A i1 i2))) := fun K => by
      simp only [pStore, S4.res]
      simp [setsC]
    rw [hst]
    have ldr : ∀ K : AV → Prop, pLoad (some 3) (.ptr h.next 0) (H4.put h.next (.row 29 (setsC c A i1 i2))) K = K (.agg (setsC c A i1 i2)) := fun K => by
      rw [pLoad_ptr (put_new _ _ _)]; exact setsC_all c A i1 i2 K
    (repeat simp -dsimp -implicitDefEqProofs (disch := omega) only [↓rP, rQ, rO, rL, ↓reduceIte, Nat.reduceEqDiff, Nat.reduceAdd, Nat.reduceLeDiff, pBuild, fillA, ↓tyr, ↓ldr])
    refine Or.inr ⟨hg, σ, A, i1, i2, rfl, ?_, ?_, l1, l2, l3, l4, S4.keep.putNew (Nat.le_refl _) _⟩
    · refine S4.sol.sets.keep (S := fun i => i = h.next) ⟨Nat.le_refl _, fun i _ hi => put_old hi _⟩ (fun r id e h => ?_)
      have := own id (Or.inr ⟨r, e⟩)
      omega
    · intro r id e
      have := own id (Or.inr ⟨r, e⟩)
      omega
end Go.Proofs.YtopfjochppdnfaaDoor
end

section
/- One's own row, wherever it stands within arguments, becomes read-only from a call on. -/
namespace Go.Abs
open Go.RowKit
def Fz (id n sz : Nat) (es : List (List AV)) (c c' : Ctx) (w : World) : Prop := (∀ v, VRel c w (.sl id 0 n sz) v → VRel c' w (.isl sz es) v) ∧ ∃ B, Ext B c w c' w
def FzV (id n sz : Nat) (es : List (List AV)) (a b : AV) : Prop := ∀ c c' w, Fz id n sz es c c' w → ∀ v, VRel c w a v → VRel c' w b v
def FzL (id n sz : Nat) (es : List (List AV)) (xs bs : List AV) : Prop := ∀ c c' w, Fz id n sz es c c' w → ∀ vs, LRel c w xs vs → LRel c' w bs vs
def FzM (id n sz : Nat) (es : List (List AV)) (xs bs : List AV) : Prop := xs.length = bs.length ∧ ∀ c c' w, Fz id n sz es c c' w → ∀ b off, MRel c w xs b off → MRel c' w bs b off
def FzE (id n sz : Nat) (es : List (List AV)) (k : Nat) (xs bs : List (List AV)) : Prop := xs.length = bs.length ∧ ∀ c c' w, Fz id n sz es c c' w → ∀ b off, ERel c w k xs b off → ERel c' w k bs b off
section
variable {id n sz : Nat} {es : List (List AV)}
theorem FzV.same (a : AV) : FzV id n sz es a a := fun c c' w F v h => by obtain ⟨_, B, E⟩ := F; exact VRel.mono E h
theorem FzL.nil : FzL id n sz es [] [] := fun c c' w F vs h => by simpa [LRel] using h
theorem FzL.cons {a b : AV} {xs bs : List AV} (h1 : FzV id n sz es a b) (h2 : FzL id n sz es xs bs) : FzL id n sz es (a :: xs) (b :: bs) := fun c c' w F vs h => by
  simp only [LRel] at h ⊢
  obtain ⟨v, vs', e, hv, hl⟩ := h
  exact ⟨v, vs', e, h1 c c' w F v hv, h2 c c' w F vs' hl⟩
theorem FzL.same (xs : List AV) : FzL id n sz es xs xs := fun c c' w F vs h => by obtain ⟨_, B, E⟩ := F; exact LRel.mono E h
theorem FzM.nil : FzM id n sz es [] [] := ⟨rfl, fun c c' w F b off h => by simp [MRel]⟩
theorem FzM.cons {a b : AV} {xs bs : List AV} (h1 : FzV id n sz es a b) (h2 : FzM id n sz es xs bs) : FzM id n sz es (a :: xs) (b :: bs) := ⟨by simp [h2.1], fun c c' w F k off h => by
  have F' := F
  obtain ⟨_, B, E⟩ := F'
  simp only [MRel] at h ⊢
  obtain ⟨hi, ⟨u, hu, ho, hv⟩, hm⟩ := h
  exact ⟨E.im _ _ hi, ⟨u, hu, ho, h1 c c' w F u hv⟩, h2.2 c c' w F k _ hm⟩⟩
theorem FzM.same (xs : List AV) : FzM id n sz es xs xs := ⟨rfl, fun c c' w F b off h => by obtain ⟨_, B, E⟩ := F; exact MRel.mono E h⟩
theorem FzE.nil (k : Nat) : FzE id n sz es k [] [] := ⟨rfl, fun c c' w F b off h => by simp [ERel]⟩
theorem FzE.cons {k : Nat} {a b : List AV} {xs bs : List (List AV)} (h1 : FzM id n sz es a b) (h2 : FzE id n sz es k xs bs) : FzE id n sz es k (a :: xs) (b :: bs) := ⟨by simp [h2.1], fun c c' w F o off h => by
  simp only [ERel] at h ⊢
  exact ⟨h1.1 ▸ h.1, h1.2 c c' w F o off h.2.1, h2.2 c c' w F o _ h.2.2⟩⟩
theorem FzE.same (k : Nat) (xs : List (List AV)) : FzE id n sz es k xs xs := ⟨rfl, fun c c' w F b off h => by obtain ⟨_, B, E⟩ := F; exact ERel.mono E h⟩
theorem FzV.isl {k : Nat} {xs bs : List (List AV)} (h : FzE id n sz es k xs bs) : FzV id n sz es (.isl k xs) (.isl k bs) := fun c c' w F v hv => by
  simp only [VRel] at hv ⊢
  obtain ⟨a, cap, e1, e2, e3, e4⟩ := hv
  refine ⟨a, cap, by rw [← h.1]; exact e1, by rw [← h.1]; exact e2, by rw [← h.1]; exact e3, fun hne => ?_⟩
  obtain ⟨b, off, e5, e6⟩ := e4 (fun e0 => hne (List.length_eq_zero_iff.1 (by rw [← h.1, e0]; rfl)))
  exact ⟨b, off, e5, h.2 c c' w F b off e6⟩
theorem FzV.agg {xs bs : List AV} (h : FzL id n sz es xs bs) : FzV id n sz es (.agg xs) (.agg bs) := fun c c' w F v hv => by
  simp only [VRel] at hv ⊢
  obtain ⟨vs, e1, e2, e3⟩ := hv
  exact ⟨vs, e1, h c c' w F _ e2, e3⟩
end
end Go.Abs
end

section
/- The rows that a call made for its answer become read-only with its end: what it answers is then a value, and the heap is as it was. -/
namespace Go.Abs
open Go.RowKit
noncomputable def AHeap.killS (h : AHeap) (D : Nat → Prop) : AHeap := { h with objs := fun i => @ite _ (D i) (Classical.propDecidable _) none (h.objs i) }
theorem killS_in {h : AHeap} {D : Nat → Prop} {i : Nat} (hi : D i) : (h.killS D).objs i = none := by simp [AHeap.killS, hi]
theorem killS_out {h : AHeap} {D : Nat → Prop} {i : Nat} (hi : ¬ D i) : (h.killS D).objs i = h.objs i := by simp [AHeap.killS, hi]
theorem killS_some {h : AHeap} {D : Nat → Prop} {i : Nat} {o : AObj} (hi : (h.killS D).objs i = some o) : ¬ D i ∧ h.objs i = some o := by
  by_cases d : D i
  · rw [killS_in d] at hi; cases hi
  · rw [killS_out d] at hi; exact ⟨d, hi⟩
theorem WRel.killS {B : Nat} {c : Ctx} {h : AHeap} {w : World} (W : WRel B c h w) (D : Nat → Prop) : WRel B c (h.killS D) w := by
  refine ⟨W.mlt, fun i j k hi hj h1 h2 => W.inj i j k hi hj ?_ ?_, fun i k x hi hio => W.obj i k x hi (killS_some hio).2, W.im, fun i hi => ?_, W.base, W.gl⟩
  · intro e; apply h1
    by_cases d : D i
    · exact killS_in d
    · rw [killS_out d]; exact e
  · intro e; apply h2
    by_cases d : D j
    · exact killS_in d
    · rw [killS_out d]; exact e
  · by_cases d : D i
    · exact killS_in d
    · rw [killS_out d]; exact W.fresh i hi
def Rz (H : AHeap) (D : Nat → Prop) (c c' : Ctx) (w : World) : Prop := ∃ B, WRel B c H w ∧ Ext B c w c' w ∧ ∀ id b, D id → c.m id = some b → ∀ x, c'.im b x
def RzV (H : AHeap) (D : Nat → Prop) (a b : AV) : Prop := ∀ c c' w, Rz H D c c' w → ∀ v, VRel c w a v → VRel c' w b v
def RzL (H : AHeap) (D : Nat → Prop) (xs bs : List AV) : Prop := ∀ c c' w, Rz H D c c' w → ∀ vs, LRel c w xs vs → LRel c' w bs vs
def RzM (H : AHeap) (D : Nat → Prop) (xs bs : List AV) : Prop := xs.length = bs.length ∧ ∀ c c' w, Rz H D c c' w → ∀ b off, MRel c w xs b off → MRel c' w bs b off
def RzE (H : AHeap) (D : Nat → Prop) (k : Nat) (xs bs : List (List AV)) : Prop := xs.length = bs.length ∧ ∀ c c' w, Rz H D c c' w → ∀ b off, ERel c w k xs b off → ERel c' w k bs b off
section
variable {H : AHeap} {D : Nat → Prop}
theorem RzV.same (a : AV) : RzV H D a a := fun c c' w F v h => by obtain ⟨B, _, E, _⟩ := F; exact VRel.mono E h
theorem RzL.nil : RzL H D [] [] := fun c c' w F vs h => by simpa [LRel] using h
theorem RzL.cons {a b : AV} {xs bs : List AV} (h1 : RzV H D a b) (h2 : RzL H D xs bs) : RzL H D (a :: xs) (b :: bs) := fun c c' w F vs h => by
  simp only [LRel] at h ⊢
  obtain ⟨v, vs', e, hv, hl⟩ := h
  exact ⟨v, vs', e, h1 c c' w F v hv, h2 c c' w F vs' hl⟩
theorem RzL.same (xs : List AV) : RzL H D xs xs := fun c c' w F vs h => by obtain ⟨B, _, E, _⟩ := F; exact LRel.mono E h
theorem RzM.nil : RzM H D [] [] := ⟨rfl, fun c c' w F b off h => by simp [MRel]⟩
theorem RzM.cons {a b : AV} {xs bs : List AV} (h1 : RzV H D a b) (h2 : RzM H D xs bs) : RzM H D (a :: xs) (b :: bs) := ⟨by simp [h2.1], fun c c' w F k off h => by
  have F' := F
  obtain ⟨B, _, E, _⟩ := F'
  simp only [MRel] at h ⊢
  obtain ⟨hi, ⟨u, hu, ho, hv⟩, hm⟩ := h
  exact ⟨E.im _ _ hi, ⟨u, hu, ho, h1 c c' w F u hv⟩, h2.2 c c' w F k _ hm⟩⟩
theorem RzM.same (xs : List AV) : RzM H D xs xs := ⟨rfl, fun c c' w F b off h => by obtain ⟨B, _, E, _⟩ := F; exact MRel.mono E h⟩
theorem RzE.nil (k : Nat) : RzE H D k [] [] := ⟨rfl, fun c c' w F b off h => by simp [ERel]⟩
theorem RzE.cons {k : Nat} {a b : List AV} {xs bs : List (List AV)} (h1 : RzM H D a b) (h2 : RzE H D k xs bs) : RzE H D k (a :: xs) (b :: bs) := ⟨by simp [h2.1], fun c c' w F o off h => by
  simp only [ERel] at h ⊢
  exact ⟨h1.1 ▸ h.1, h1.2 c c' w F o off h.2.1, h2.2 c c' w F o _ h.2.2⟩⟩
theorem RzE.same (k : Nat) (xs : List (List AV)) : RzE H D k xs xs := ⟨rfl, fun c c' w F b off h => by obtain ⟨B, _, E, _⟩ := F; exact ERel.mono E h⟩
theorem RzE.map {α : Type} {k : Nat} {f g : α → List AV} {l : List α} (h : ∀ x ∈ l, RzM H D (f x) (g x)) : RzE H D k (l.map f) (l.map g) := by
  induction l with
  | nil => exact RzE.nil k
  | cons x l ih => exact RzE.cons (h x (by simp)) (ih fun y hy => h y (by simp [hy]))
theorem RzV.isl {k : Nat} {xs bs : List (List AV)} (h : RzE H D k xs bs) : RzV H D (.isl k xs) (.isl k bs) := fun c c' w F v hv => by
  simp only [VRel] at hv ⊢
  obtain ⟨a, cap, e1, e2, e3, e4⟩ := hv
  refine ⟨a, cap, by rw [← h.1]; exact e1, by rw [← h.1]; exact e2, by rw [← h.1]; exact e3, fun hne => ?_⟩
  obtain ⟨b, off, e5, e6⟩ := e4 (fun e0 => hne (List.length_eq_zero_iff.1 (by rw [← h.1, e0]; rfl)))
  exact ⟨b, off, e5, h.2 c c' w F b off e6⟩
theorem RzV.gsl {id k : Nat} {xs bs : List (List AV)} (hm : xs.length ≤ 1000000) (h : RzE H D k xs bs) : RzV H D (.gsl id k xs) (.isl k bs) := fun c c' w F v hv =>
  RzV.isl h c c' w F v (gsl_isl id k xs hm c w v hv)
theorem RzV.agg {xs bs : List AV} (h : RzL H D xs bs) : RzV H D (.agg xs) (.agg bs) := fun c c' w F v hv => by
  simp only [VRel] at hv ⊢
  obtain ⟨vs, e1, e2, e3⟩ := hv
  exact ⟨vs, e1, h c c' w F _ e2, e3⟩
theorem RzV.row {id n sz : Nat} {ty : TypeId} {cs cs' : List AV} (hD : D id) (ho : H.objs id = some (.row ty cs)) (hn : n * sz ≤ cs.length) (hm : n ≤ 1000000) (hl : cs'.length = cs.length) (hc : ∀ (i : Nat) (a a' : AV), cs[i]? = some a → cs'[i]? = some a' → RzV H D a a') : RzV H D (.sl id 0 n sz) (.isl sz (chunk sz n cs')) := fun c c' w F v hv => by
  have F' := F
  obtain ⟨B, W, E, im⟩ := F'
  simp only [VRel] at hv ⊢
  obtain ⟨b, cap, ty', hb, rfl, hc1, hc2, -⟩ := hv
  have hcl : (chunk sz n cs').length = n := chunk_length sz n cs'
  refine ⟨some ⟨b, 0, none⟩, cap, by rw [hcl], by rw [hcl]; exact hc1, by rw [hcl]; omega, fun _ => ⟨b, 0, rfl, ?_⟩⟩
  refine erel_chunk n cs' 0 (by rw [hl]; exact hn) (MRel.ofFn fun i a' hi => ⟨im id b hD hb _, ?_⟩)
  obtain ⟨a, ha⟩ : ∃ a, cs[i]? = some a := by
    have := (List.getElem?_eq_some_iff.1 hi).1
    exact ⟨_, List.getElem?_eq_getElem (by omega)⟩
  obtain ⟨u, hu, hone, hr⟩ := W.row_get hb ho ha
  exact ⟨u, by rw [Nat.zero_add]; exact hu, hone, hc i a a' ha hi c c' w F u hr⟩
end
theorem WRel.settle {B : Nat} {c c' : Ctx} {h h2 : AHeap} {w w' : World} {D : Nat → Prop} {v v' : AV} {u : Value} (W : WRel B c h w) (E : Ext B c w c' w') (W' : WRel B c' h2 w') (K : Keeps h h2 (fun _ => False)) (hD : ∀ i, D i → h.next ≤ i ∧ h2.objs i ≠ none) (V : VRel c' w' v u) (Z : RzV h2 D v v') (hv : idsIn (fun _ => False) v') :
    ∃ c2, Ext B c w c2 w' ∧ WRel B c2 h w' ∧ VRel c2 w' v' u := by
  obtain ⟨E2, W2⟩ := (W'.killS D).freeze (fun k _ => ∃ id, D id ∧ c'.m id = some k) (by rintro k x ⟨id, hd, hk⟩; exact (W'.mlt id k hk).2.2) (by
    rintro k x ⟨id, hd, hk⟩ i o hi hio
    obtain ⟨h3, h4⟩ := killS_some hio
    have := W'.inj i id k hi hk (by rw [h4]; simp) (hD id hd).2
    subst this; exact absurd hd h3)
  refine W.forget (E.trans E2) W2 ⟨K.next, fun i hi hs => ?_⟩ hv (Z c' _ w' ⟨B, W', E2, fun id b hd hb x => Or.inr ⟨id, hd, hb⟩⟩ u V)
  rw [killS_out (fun d => by have := (hD i d).1; omega)]
  exact K.objs i hi hs
theorem CallsA.result {P : Program} {f : FuncId} {args : List AV} {h : AHeap} {α : Type} {enc : α → AV} {Q : α → Prop} (hid : ∀ a, Q a → idsIn (fun _ => False) (enc a))
    (H : CallsA P f args h (fun v h2 => ∃ (D : Nat → Prop) (a : α), Q a ∧ RzV h2 D v (enc a) ∧ (∀ i, D i → h.next ≤ i ∧ h2.objs i ≠ none) ∧ Keeps h h2 (fun _ => False))) : CallsA P f args h (fun v h2 => (∃ a, v = enc a ∧ Q a) ∧ h2 = h) := by
  rcases H with H | H
  · refine Or.inl ⟨H.1, fun B c w vs W L => (H.2 B c w vs W L).mono fun e w' ⟨c', u, v, h', a, E, W', V, D, q, hq, Z, hD, K⟩ => ?_⟩
    obtain ⟨c2, E2, W2, V2⟩ := W.settle E W' K hD V Z (hid q hq)
    exact ⟨c2, u, enc q, h, a, E2, W2, V2, ⟨q, rfl, hq⟩, rfl⟩
  · refine Or.inr fun B c w vs W L => ?_
    obtain ⟨c', u, v, h', w', a, E, W', V, D, q, hq, Z, hD, K⟩ := H B c w vs W L
    obtain ⟨c2, E2, W2, V2⟩ := W.settle E W' K hD V Z (hid q hq)
    exact ⟨c2, u, enc q, h, w', a, E2, W2, V2, ⟨q, rfl, hq⟩, rfl⟩
end Go.Abs
end

section
/- What is solved, as a value. -/
set_option maxRecDepth 8000
set_option maxHeartbeats 1000000
namespace Go.Proofs.YtopfjochppdnfaaDoor
open Go.Abs
theorem chunk_row (l : List Nat) : chunk 1 l.length (l.map fun (n : Nat) => AV.int .u64 n) = l.map encN := by
  induction l with
  | nil => rfl
  | cons a l ih => simp only [List.map_cons, List.length_cons, chunk, List.take_succ_cons, List.take_zero, List.drop_succ_cons, List.drop_zero]; rw [ih]; rfl
def rowO (c : Cd) (σ : Sg) (N : Rw → Bool) (r : Rw) : Option (List Nat) := if N r then none else some ((List.range (lenR c r)).map (σ r))
def rowsO (n : Nat) (f : Nat → Option (List Nat)) : Option (List (Option (List Nat))) := if n = 0 then none else some ((List.range n).map f)
def setsV (c : Cd) (σ : Sg) (N : Rw → Bool) : Api_Sets := ⟨rowsO (slL c.Threads).length (fun t => rowO c σ N (.s t)), rowO c σ N .g, rowsO (slL c.Sites).length (fun k => rowO c σ N (.f k))⟩
theorem ids_row (D : Nat → Prop) (o : Option (List Nat)) : idsIn D (slAV 1 encN o) := by
  cases o with
  | none => exact trivial
  | some l =>
    show idsInE D (l.map encN)
    induction l with
    | nil => exact trivial
    | cons a l ih => exact ⟨⟨trivial, trivial⟩, ih⟩
theorem ids_rows (D : Nat → Prop) (o : Option (List (Option (List Nat)))) : idsIn D (slAV 1 (fun o => [slAV 1 encN o]) o) := by
  cases o with
  | none => exact trivial
  | some l =>
    show idsInE D (l.map fun o => [slAV 1 encN o])
    induction l with
    | nil => exact trivial
    | cons a l ih => exact ⟨⟨ids_row D a, trivial⟩, ih⟩
theorem ids_sets (D : Nat → Prop) (s : Api_Sets) : idsIn D (.agg s.cells) := ⟨ids_rows D _, ids_row D _, ids_rows D _, trivial⟩
open Classical in
noncomputable def nilR (A : Rw → AV) (r : Rw) : Bool := decide (A r = .nils)
theorem rz_row {H : AHeap} {D : Nat → Prop} {c : Cd} {σ : Sg} {A : Rw → AV} (S : SetsAt H c σ A) (hD : ∀ r id, A r = .sl id 0 (lenR c r) 1 → D id) (r : Rw) (hl : lenR c r ≤ 1000000) : RzV H D (A r) (slAV 1 encN (rowO c σ (nilR A) r)) := by
  rcases S.row r with ⟨e, _⟩ | ⟨id, e, hid, ho⟩
  · have : nilR A r = true := by simp [nilR, e]
    simp only [rowO, this, if_true, e]
    exact RzV.same _
  · have : nilR A r = false := by simp [nilR, e]
    have e2 : slAV 1 encN (rowO c σ (nilR A) r) = .isl 1 (chunk 1 (lenR c r) (rowC (σ r) (lenR c r))) := by
      simp only [rowO, this, Bool.false_eq_true, if_false, slAV]
      have := chunk_row ((List.range (lenR c r)).map (σ r))
      rw [List.length_map, List.length_range] at this
      rw [← this]
      simp only [rowC, List.map_map]
      rfl
    rw [e2, e]
    exact RzV.row (hD r id e) ho (by rw [rowC_len]; omega) hl rfl (fun i a a' h1 h2 => by rw [h1] at h2; cases h2; exact RzV.same _)
theorem rz_out {H : AHeap} {D : Nat → Prop} {id n : Nat} {f : Nat → AV} {g : Nat → Option (List Nat)} (hn : n ≤ 1000000) (h : ∀ k, k < n → RzV H D (f k) (slAV 1 encN (g k))) : RzV H D (outA id n f) (slAV 1 (fun o => [slAV 1 encN o]) (rowsO n g)) := by
  unfold outA rowsO
  by_cases e : n = 0
  · rw [if_pos e, if_pos e]; exact RzV.same _
  · rw [if_neg e, if_neg e]
    have e2 : slAV 1 (fun o => [slAV 1 encN o]) (some ((List.range n).map g)) = .isl 1 ((List.range n).map fun k => [slAV 1 encN (g k)]) := by
      simp only [slAV, List.map_map]; rfl
    rw [e2]
    exact RzV.gsl (by simp; omega) (RzE.map fun k hk => RzM.cons (h k (List.mem_range.1 hk)) RzM.nil)
def SolvedV (c : Cd) (s : Api_Sets) : Prop := (okC c = false ∧ s = ⟨none, none, none⟩) ∨ (okC c = true ∧ ∃ σ N, s = setsV c σ N ∧ (∀ r, N r = true → lenR c r = 0) ∧ Cl c σ ∧ Lw c σ ∧ Bd2 c σ ∧ Rg c σ)
theorem lenR_le {c : Cd} (sm : Small c) (r : Rw) : lenR c r ≤ 1000 := by
  cases r with
  | g => have := sm.globs; simp only [lenR]; omega
  | s t =>
    simp only [lenR, slotsL]
    split
    · rename_i b hb
      have := sm.slots b (List.mem_of_getElem? hb); omega
    · simp
  | f k =>
    simp only [lenR]
    split
    · rename_i x hx
      simp only [recL]
      split
      · rename_i l hl
        have := sm.fields l (by unfold getI at hl; split at hl <;> first | exact List.mem_of_getElem? hl | cases hl); omega
      · simp
    · simp
theorem Solve_v (c : Cd) (hc : c.ok) (sm : Small c) (h : AHeap) : CallsA Tryd.prog 22 [.agg c.cells] h (fun v h2 => (∃ s : Api_Sets, v = .agg s.cells ∧ SolvedV c s) ∧ h2 = h) := by
  refine CallsA.result (enc := fun s : Api_Sets => .agg s.cells) (Q := SolvedV c) (fun s _ => ids_sets _ s) ((Solve_does c hc sm h).mono ?_)
  rintro v h2 (⟨h1, rfl, kp⟩ | ⟨h1, σ, A, i1, i2, rfl, S, own, l1, l2, l3, l4, kp⟩)
  · exact ⟨fun _ => False, ⟨none, none, none⟩, Or.inl ⟨h1, rfl⟩, RzV.same _, fun _ h => h.elim, kp⟩
  · refine ⟨fun i => ∃ r, A r = .sl i 0 (lenR c r) 1, setsV c σ (nilR A), Or.inr ⟨h1, σ, nilR A, rfl, fun r hr => ?_, l1, l2, l3, l4⟩, ?_, ?_, kp⟩
    · rcases S.row r with ⟨_, e⟩ | ⟨id, e, _⟩
      · exact e
      · simp [nilR, e] at hr
    · have hD : ∀ r id, A r = .sl id 0 (lenR c r) 1 → ∃ r, A r = .sl id 0 (lenR c r) 1 := fun r id e => ⟨r, e⟩
      have hr := fun r => rz_row S hD r (by have := lenR_le sm r; omega)
      have := sm.threads
      have := sm.sites
      exact RzV.agg (RzL.cons (rz_out (by omega) fun k _ => hr _) (RzL.cons (hr _) (RzL.cons (rz_out (by omega) fun k _ => hr _) RzL.nil)))
    · rintro i ⟨r, e⟩
      refine ⟨own r i e, ?_⟩
      rcases S.row r with ⟨e2, _⟩ | ⟨id, e2, _, ho⟩
      · rw [e2] at e; cases e
      · rw [e] at e2; cases e2; rw [ho]; simp
end Go.Proofs.YtopfjochppdnfaaDoor
end

section
/- A code of which something is known. -/
set_option maxRecDepth 100000
set_option maxHeartbeats 1000000
namespace Go.Proofs.YtopfjochppdnfaaDoor
open Go.Abs
theorem has_does (x : Nat) (hx : x < 18446744073709551616) (k : Nat) (hk : k ≤ 1000000) (h : AHeap) : CallsA Tryd.prog 16 [.int .u64 (x : Nat), .int .i64 (k : Nat)] h (fun v h2 => v = .bool (x.testBit k) ∧ h2 = h) := by
  apply padlockref11_Has_wp
  have e0 : decide ((0 : Int) ≤ (k : Int)) = true := by simp
  by_cases h64 : k < 64
  · have e1 : decide ((k : Int) < 64) = true := by simp; omega
    have ec : IntKind.u64.wrap (k : Int) = (k : Int) := by rw [wr_u64]; omega
    have es : binA CmpK.other BinOp.shr (.int .u64 (x : Int)) (.int .u64 (k : Int)) = some (.int .u64 ((x / 2 ^ k : Nat) : Int)) := by rw [binA_shr, if_neg (by omega), iShr_u64 _ _ h64]
    have er : binA CmpK.other BinOp.rem (.int .u64 ((x / 2 ^ k : Nat) : Int)) (.int .u64 2) = some (.int .u64 ((x / 2 ^ k % 2 : Nat) : Int)) := by
      rw [binA_int_rem, if_neg (by decide)]
      rfl
    (repeat simp -dsimp -implicitDefEqProofs (disch := omega) only [↓rP, rQ, rO, rL, ↓reduceIte, Nat.reduceEqDiff, Nat.reduceAdd, Nat.reduceLeDiff, pBuild, fillA, ↓tyr, e0, e1, ec, es, er])
    congr 1
    have : x.testBit k = decide (x / 2 ^ k % 2 = 1) := by
      rw [show x / 2 ^ k = x >>> k from (Nat.shiftRight_eq_div_pow x k).symm]
      have := Nat.testBit_shiftRight (i := k) (j := 0) x
      rw [Nat.add_zero] at this
      rw [← this, Nat.testBit_zero]
    rw [this]
    generalize x / 2 ^ k = q
    rw [Bool.eq_iff_iff]
    simp
    omega
  · have e1 : decide ((k : Int) < 64) = false := by simp; omega
    (repeat simp -dsimp -implicitDefEqProofs (disch := omega) only [↓rP, rQ, rO, rL, ↓reduceIte, Nat.reduceEqDiff, Nat.reduceAdd, Nat.reduceLeDiff, pBuild, fillA, ↓tyr, e0, e1])
    rw [Nat.testBit_lt_two_pow (Nat.lt_of_lt_of_le (show x < 2 ^ 64 by simpa using hx) (Nat.pow_le_pow_right (by decide) (by omega)))]
end Go.Proofs.YtopfjochppdnfaaDoor
end

section
/- Roots, and sets whose sites are joined. -/
set_option maxRecDepth 100000
set_option maxHeartbeats 1000000
namespace Go.Proofs.YtopfjochppdnfaaDoor
open Go.Abs
theorem ix_ns {fid n k : Nat} (hk : k < n) (K : AV → Prop) : pIndexAddr (.slice 1) (.sl fid 0 n 1) (.int .i64 (k : Int)) K = K (.ptr fid k) := by
  rw [run_ixSl (by omega) (by omega)]; simp
theorem ld_ns {g : List Nat} {hh : AHeap} {fid k v : Nat} {T : TypeId} (ho : hh.objs fid = some (.row T (nsAV g))) (hv : g[k]? = some v) (K : AV → Prop) : pLoad none (.ptr fid k) hh K = K (.int .i64 (v : Nat)) := by
  rw [pLoad_ptr ho]; simp [pCells, nsAV_get, hv]
theorem st_ns {g : List Nat} {hh : AHeap} {fid k : Nat} {T : TypeId} (ho : hh.objs fid = some (.row T (nsAV g))) (hk : k < g.length) (v : Nat) (K : AHeap → Prop) : pStore 1 (.ptr fid k) (.int .i64 (v : Int)) hh K = K (hh.put fid (.row T (nsAV (g.set k v)))) := by
  rw [pStore_ptr ho (by rfl) (by rw [nsAV_len]; exact hk), nsAV_set]
theorem top_does {fid : Nat} {f : List Nat} (hl : Low f) {k : Nat} (hk : k < f.length) {h : AHeap} (ho : h.objs fid = some (.row 3 (nsAV f))) : CallsA Tryd.prog 32 [.sl fid 0 f.length 1, .int .i64 (k : Nat)] h (fun v h2 => v = .int .i64 (root f k : Nat) ∧ ∃ g, h2 = h.put fid (.row 3 (nsAV g)) ∧ Low g ∧ g.length = f.length ∧ ∀ x, root g x = root f x) := by
  apply class_forest_top_wp
  (repeat simp -dsimp -implicitDefEqProofs (disch := omega) only [↓rP, rQ, rO, rL, ↓reduceIte, Nat.reduceEqDiff, Nat.reduceAdd, Nat.reduceLeDiff, pBuild, fillA, ↓tyr])
  obtain ⟨I, hI⟩ : ∃ I : Nat → Fr → AHeap → Prop, I = (fun m fr hh => ∃ (k' : Nat) (g : List Nat), m = k' ∧ k' < f.length ∧ hh = h.put fid (.row 3 (nsAV g)) ∧ Low g ∧ g.length = f.length ∧ (∀ x, root g x = root f x) ∧ root f k' = root f k ∧ fr = frOf [(0, .sl fid 0 f.length 1), (1, .int .i64 (k' : Nat))]) := ⟨_, rfl⟩
  refine WP_loop mixed_ (by kernel_rfl) I k (by rw [hI]; exact ⟨k, f, rfl, hk, (put_self ho).symm, hl, rfl, fun _ => rfl, rfl, rfl⟩) ?_
  intro m fr hh hi
  rw [hI] at hi
  obtain ⟨k', g, hmk, hk', rfl, hg, hgl, hr, hrk, rfl⟩ := hi
  apply class_forest_top_loop1
  have hob : (h.put fid (.row 3 (nsAV g))).objs fid = some (.row 3 (nsAV g)) := by simp
  have hkg : k' < g.length := by omega
  obtain ⟨p, hp⟩ : ∃ p, g[k']? = some p := ⟨_, List.getElem?_eq_getElem hkg⟩
  have hD : g.getD k' k' = p := by rw [List.getD_eq_getElem?_getD, hp]; rfl
  have hpk := hg k' p hp
  by_cases e : p = k'
  · subst e
    (repeat simp -dsimp -implicitDefEqProofs (disch := omega) only [↓rP, rQ, rO, rL, ↓reduceIte, Nat.reduceEqDiff, Nat.reduceAdd, Nat.reduceLeDiff, pBuild, fillA, ↓tyr, ix_ns hk', ld_ns hob hp])
    refine ⟨?_, g, rfl, hg, hgl, hr⟩
    have : root f p = p := by rw [← hr]; exact root_stop (by rw [hD]; omega)
    rw [← hrk, this]
  have hpl : p < g.length := by omega
  obtain ⟨q, hq⟩ : ∃ q, g[p]? = some q := ⟨_, List.getElem?_eq_getElem hpl⟩
  have hDq : g.getD p p = q := by rw [List.getD_eq_getElem?_getD, hq]; rfl
  have hqp := hg p q hq
  have hb : ((p : Int) != (k' : Int)) = true := by simp; omega
  have hob2 : ((h.put fid (.row 3 (nsAV g))).put fid (.row 3 (nsAV (g.set k' q)))).objs fid = some (.row 3 (nsAV (g.set k' q))) := by simp
  have hget2 : (g.set k' q)[k']? = some q := by rw [List.getElem?_set_self hkg]
  (repeat simp -dsimp -implicitDefEqProofs (disch := omega) only [↓rP, rQ, rO, rL, ↓reduceIte, Nat.reduceEqDiff, Nat.reduceAdd, Nat.reduceLeDiff, pBuild, fillA, ↓tyr, ix_ns hk', ix_ns (show p < f.length by omega), ld_ns hob hp, ld_ns hob hq, hb, st_ns hob hkg, ld_ns hob2 hget2])
  rw [loopPost_normal, hI]
  have hh2 := root_halve hg hkg (by rw [hD]; omega)
  rw [hD, hDq] at hh2
  refine ⟨q, by omega, q, g.set k' q, rfl, by omega, put_put _ _ _ _, hg.set (by omega), by simpa using hgl, fun x => by rw [hh2, hr], ?_, rfl⟩
  rw [← hrk, ← hr, ← hr]
  rw [root_step (k := k') (by rw [hD]; omega), hD]
  by_cases e2 : q < p
  · rw [root_step (k := p) (by rw [hDq]; exact e2), hDq]
  · have : q = p := by omega
    rw [this]
theorem join_does {fid : Nat} {f : List Nat} {P : List (Nat × Nat)} (hs : Says f P) {x : Nat} (hx : x < 18446744073709551616) (hb : ∀ k ∈ bitsOf x, k < f.length) (hlen : f.length ≤ 1000) {h : AHeap} (hfid : fid < h.next) (ho : h.objs fid = some (.row 3 (nsAV f))) :
    CallsA Tryd.prog 31 [.sl fid 0 f.length 1, .int .u64 (x : Nat)] h (fun v h2 => ∃ g, h2.objs fid = some (.row 3 (nsAV g)) ∧ Keeps h h2 (fun i => i = fid) ∧ Says g (P ++ (bitsOf x).map fun k => (firstB x, k)) ∧ g.length = f.length) := by
  apply class_forest_join_wp
  by_cases h0 : x = 0
  · subst h0
    (repeat simp -dsimp -implicitDefEqProofs (disch := omega) only [↓rP, rQ, rO, rL, ↓reduceIte, Nat.reduceEqDiff, Nat.reduceAdd, Nat.reduceLeDiff, pBuild, fillA, ↓tyr, fits_sl, cells_sl])
    exact ⟨f, ho, Keeps.refl _ _, by simpa [bits_zero] using hs, rfl⟩
  have e0 : ((x : Int) == 0) = false := by simpa using h0
  have hlow := firstB_low h0 hx
  have hfirst : firstB x < f.length := hb _ (mem_bits.2 ⟨hlow.1, hlow.2.1⟩)
  (repeat simp -dsimp -implicitDefEqProofs (disch := omega) only [↓rP, rQ, rO, rL, ↓reduceIte, Nat.reduceEqDiff, Nat.reduceAdd, Nat.reduceLeDiff, pBuild, fillA, ↓tyr, fits_sl, cells_sl, e0])
  refine CallsA.go (tz_does x hx _) ?_
  (repeat simp -dsimp -implicitDefEqProofs (disch := omega) only [↓rP, rQ, rO, rL, ↓reduceIte, Nat.reduceEqDiff, Nat.reduceAdd, Nat.reduceLeDiff, pBuild, fillA, ↓tyr])
  rw [pStore_one (by rfl)]
  (repeat simp -dsimp -implicitDefEqProofs (disch := omega) only [↓rP, rQ, rO, rL, ↓reduceIte, Nat.reduceEqDiff, Nat.reduceAdd, Nat.reduceLeDiff, pBuild, fillA, ↓tyr])
  refine (each_does x _).mono ?_
  rintro v h2 ⟨rfl, rfl⟩
  (repeat simp -dsimp -implicitDefEqProofs (disch := omega) only [↓rP, rQ, rO, rL, ↓reduceIte, Nat.reduceEqDiff, Nat.reduceAdd, Nat.reduceLeDiff, pBuild, fillA, ↓tyr])
  obtain ⟨H, hH⟩ : ∃ H : AHeap, H = (h.push (.row 3 [.int .i64 (firstB x : Nat)])).push (.row 23 [.int .u64 (x : Nat)]) := ⟨_, rfl⟩
  have hHn : H.next = h.next + 2 := by rw [hH]; rfl
  have hHc : H.objs h.next = some (.row 3 [.int .i64 (firstB x : Nat)]) := by rw [hH]; simp
  have hHb : H.objs (h.next + 1) = some (.row 23 [.int .u64 (x : Nat)]) := by rw [hH]; simp
  have hHk : Keeps h H (fun i => i = fid) := by rw [hH]; exact ((Keeps.one _ _).go (Keeps.one _ _)).mono (fun _ e => e.elim)
  have hHf : H.objs fid = some (.row 3 (nsAV f)) := by rw [hH, push_old (by simp; omega), push_old hfid]; exact ho
  have e1 : (h.push (.row 3 [.int .i64 (firstB x : Nat)])).next = h.next + 1 := rfl
  rw [e1, ← hH]
  clear e1
  refine WP_rangeA Tryd.call58 (gf := 58) (cap := [.ptr (h.next + 1) 0]) (by rfl) ?_
  obtain ⟨lp, hlp⟩ : ∃ lp : LoopState → Option Code → AObj, lp = fun st pe => .loop st pe 39 #[14] c_class_forest_join_4 c_class_forest_join_5 (frOf [(2, AV.iptr [AV.sl fid 0 f.length 1]), (4, AV.ptr h.next 0), (13, AV.fn (Fn.func 58) [] [AV.ptr (h.next + 1) 0])]) := ⟨_, rfl⟩
  obtain ⟨J, hJ⟩ : ∃ J : Nat → AHeap → Prop, J = fun n hh => ∃ g, hh.objs fid = some (.row 3 (nsAV g)) ∧ Says g (P ++ ((bitsOf x).take n).map fun k => (firstB x, k)) ∧ g.length = f.length ∧ hh.objs h.next = some (.row 3 [.int .i64 (firstB x : Nat)]) ∧ hh.objs (h.next + 2) = some (lp .ready none) ∧ Keeps h hh (fun i => i = fid) := ⟨_, rfl⟩
  rw [hHn]
  refine (each1_does hx J (fun _ => False) _ (by simp [hHn, hHb]) ?_ ?_ ?_).mono ?_
  · rw [hJ]
    refine ⟨f, by rw [push_old (by omega)]; exact hHf, by simpa using hs, rfl, by rw [push_old (by omega)]; exact hHc, ?_, hHk.pushS _⟩
    rw [← hHn, hlp]; exact push_new _ _
  · intro n hh o hj
    rw [hJ] at hj ⊢
    obtain ⟨g, j1, j2, j3, j4, j5, j6⟩ := hj
    refine ⟨g, ?_, j2, j3, ?_, ?_, j6.putNew (by omega) _⟩
    · simp only [AHeap.put_objs]; rw [if_neg (by omega)]; exact j1
    · simp only [AHeap.put_objs]; rw [if_neg (by omega)]; exact j4
    · simp only [AHeap.put_objs]; rw [if_neg (by omega)]; exact j5
  · intro n k hh o hk hj hob
    rw [hJ] at hj
    obtain ⟨g, j1, j2, j3, j4, j5, j6⟩ := hj
    rw [hlp] at j5
    have hkm : k ∈ bitsOf x := List.mem_of_getElem? hk
    have hkl := hb k hkm
    refine YieldW.go (fr1 := frOf [(2, AV.iptr [AV.sl fid 0 f.length 1]), (4, AV.ptr h.next 0), (5, .int .i64 (k : Nat))]) j5 (by rfl) (by decide) (by kernel_rfl) (by kernel_rfl) ?_ ?_
    · show WP _ _ _ (setPs [14] [.int .i64 (k : Nat)] (frOf _)) _ _
      simp only [setPs, upd_frOf]
      refine WP.restr [2, 4, 14] ?_
      apply class_forest_join_loop4
      refine ⟨rfl, ?_, rfl⟩
      rfl
    · apply class_forest_join_loop5
      obtain ⟨G, hG⟩ : ∃ G : AHeap, G = hh.put (h.next + 2) (.loop .busy none 39 #[14] c_class_forest_join_4 c_class_forest_join_5 (frOf [(2, AV.iptr [AV.sl fid 0 f.length 1]), (4, AV.ptr h.next 0), (13, AV.fn (Fn.func 58) [] [AV.ptr (h.next + 1) 0])])) := ⟨_, rfl⟩
      rw [← hG]
      have g1 : G.objs fid = some (.row 3 (nsAV g)) := by rw [hG, put_old (by omega)]; exact j1
      have g4 : G.objs h.next = some (.row 3 [.int .i64 (firstB x : Nat)]) := by rw [hG, put_old (by omega)]; exact j4
      have ld4 : ∀ {F : AHeap} (hF : F.objs h.next = some (.row 3 [.int .i64 (firstB x : Nat)])) (K : AV → Prop), pLoad none (.ptr h.next 0) F K = K (.int .i64 (firstB x : Nat)) := fun hF K => by rw [pLoad_ptr hF]; simp [pCells]
      have hlow := j2.1
      rw [← j3] at hkl hfirst ⊢
      (repeat simp -dsimp -implicitDefEqProofs (disch := omega) only [↓rP, rQ, rO, rL, ↓reduceIte, Nat.reduceEqDiff, Nat.reduceAdd, Nat.reduceLeDiff, pBuild, fillA, ↓tyr, ld4 g4, fits_sl, cells_sl])
      refine (top_does hlow hfirst g1).mono ?_
      rintro _ G2 ⟨rfl, g', rfl, hl2, hlen2, hr2⟩
      have g12 : (G.put fid (.row 3 (nsAV g'))).objs fid = some (.row 3 (nsAV g')) := by simp
      (repeat simp -dsimp -implicitDefEqProofs (disch := omega) only [↓rP, rQ, rO, rL, ↓reduceIte, Nat.reduceEqDiff, Nat.reduceAdd, Nat.reduceLeDiff, pBuild, fillA, ↓tyr])
      rw [← hlen2]
      refine (top_does hl2 (k := k) (by omega) g12).mono ?_
      rintro _ G3 ⟨rfl, g'', rfl, hl3, hlen3, hr3⟩
      rw [put_put]
      have g13 : (G.put fid (.row 3 (nsAV g''))).objs fid = some (.row 3 (nsAV g'')) := by simp
      (repeat simp -dsimp -implicitDefEqProofs (disch := omega) only [↓rP, rQ, rO, rL, ↓reduceIte, Nat.reduceEqDiff, Nat.reduceAdd, Nat.reduceLeDiff, pBuild, fillA, ↓tyr])
      have hra : root g (firstB x) = root g'' (firstB x) := by rw [hr3, hr2]
      have hrb : root g' k = root g'' k := by rw [hr3]
      have hla : root g'' (firstB x) < g''.length := Nat.lt_of_le_of_lt (root_le _) (by omega)
      have hlb : root g'' k < g''.length := Nat.lt_of_le_of_lt (root_le _) (by omega)
      have hM : max ((root g (firstB x) : Nat) : Int) (root g' k : Nat) = ((max (root g'' (firstB x)) (root g'' k) : Nat) : Int) := by rw [hra, hrb]; omega
      have hm : min ((root g (firstB x) : Nat) : Int) (root g' k : Nat) = ((min (root g'' (firstB x)) (root g'' k) : Nat) : Int) := by rw [hra, hrb]; omega
      rw [maxA_two, minA_two, hM, hm]
      have hMl : max (root g'' (firstB x)) (root g'' k) < g'.length := by omega
      (repeat simp -dsimp -implicitDefEqProofs (disch := omega) only [↓rP, rQ, rO, rL, ↓reduceIte, Nat.reduceEqDiff, Nat.reduceAdd, Nat.reduceLeDiff, pBuild, fillA, ↓tyr, ix_ns hMl, st_ns g13 (show max (root g'' (firstB x)) (root g'' k) < g''.length by omega)])
      rw [put_put]
      have hsay : Says g'' (P ++ ((bitsOf x).take n).map fun k => (firstB x, k)) := j2.same hl3 (fun y => by rw [hr3, hr2])
      have hsay2 := hsay.link (i := firstB x) (j := k) (by omega) (by omega)
      refine ⟨by rw [hG, put_old (by omega)]; rw [put_new, hlen2, j3], Or.inl ⟨rfl, ?_, ?_⟩⟩
      · rw [put_old (by omega), put_old (by omega), hG, put_old (by omega)]; exact hob
      · rw [hJ]
        refine ⟨_, by rw [put_old (by omega), put_new], ?_, by simp; omega, by rw [put_old (by omega), put_old (by omega), hG, put_old (by omega)]; exact j4, by rw [put_new, hlp, hlen2, j3], ((hG ▸ j6.putNew (by omega) _).putS rfl _).putNew (by omega) _⟩
        have : (bitsOf x).take (n + 1) = (bitsOf x).take n ++ [k] := by rw [List.take_add_one, hk]; rfl
        rw [this, List.map_append, ← List.append_assoc]
        exact hsay2
  · rintro v h' (hj | hj)
    · rw [hJ] at hj
      obtain ⟨g, j1, j2, j3, j4, j5, j6⟩ := hj
      rw [hlp] at j5
      refine ⟨.ready, none, j5, by simp, ?_⟩
      simp only [rangePostA]
      (repeat simp -dsimp -implicitDefEqProofs (disch := omega) only [↓rP, rQ, rO, rL, ↓reduceIte, Nat.reduceEqDiff, Nat.reduceAdd, Nat.reduceLeDiff, pBuild, fillA, ↓tyr])
      refine ⟨g, ?_, j6.killNew (by omega), by simpa using j2, j3⟩
      simp only [AHeap.kill_objs]; rw [if_neg (by omega)]; exact j1
    · exact hj.elim
end Go.Proofs.YtopfjochppdnfaaDoor
end

section
/- All sets, and the classes that the program finds. -/
set_option maxRecDepth 100000
set_option maxHeartbeats 1000000
namespace Go.Proofs.YtopfjochppdnfaaDoor
open Go.Abs
abbrev St := Api_Sets
def rowsOf (s : St) : List (Option (List Nat)) := s.Globals :: (slL s.Slots ++ slL s.Fields)
def setsIn (l : List (Option (List Nat))) : List Nat := l.flatMap slL
def setsOf (s : St) : List Nat := setsIn (rowsOf s)
def rowsAV (l : List (Option (List Nat))) : List AV := l.map fun o => slAV 1 encN o
theorem wk1 (k : Nat) (hk : k ≤ 1000000) : IntKind.i64.wrap ((k : Int) + 1) = ((k + 1 : Nat) : Int) := by rw [wrapI (by omega) (by omega)]; omega
theorem bsl1 {e : TypeId} {by_ : Nat} {z v : AV} (hv : v.leafy = true) (h : AHeap) (K : AV → AHeap → Prop) : pBuildSl false { e := e, sz := 1, by_ := by_ } [z] 1 [(0, v)] h K = K (.sl h.next 0 1 1) (h.push (.row e [v])) := by
  have hc : v.cells = [v] := by cases v <;> simp_all [AV.cells, AV.leafy]
  have hf : v.fits = true := by cases v <;> simp_all [AV.fits, AV.leafy]
  simp [pBuildSl, fillE, hc, hf]
theorem slAV_leafy (o : Option (List Nat)) : (slAV 1 encN o).leafy = true := by cases o <;> rfl
theorem flat_rows (l : List (Option (List Nat))) : (l.map fun o => [slAV 1 encN o]).flatten = rowsAV l := by
  induction l with
  | nil => rfl
  | cons a l ih => simp only [List.map_cons, List.flatten_cons, ih, rowsAV, List.singleton_append]
theorem rowsAV_len (l : List (Option (List Nat))) : (rowsAV l).length = l.length := by simp [rowsAV]
theorem app_rows {gr : Bool} {T : TypeId} {h : AHeap} {id : Nat} {l : List (Option (List Nat))} {o : Option (List (Option (List Nat)))} (ho : h.objs id = some (.row T (rowsAV l))) (hb : l.length + (slL o).length ≤ 1000000) (K : AV → AHeap → Prop) :
    pAppend gr { e := T, sz := 1, by_ := 24 } (.sl id 0 l.length 1) (slAV 1 (fun o => [slAV 1 encN o]) o) h K = K (.sl h.next 0 (l ++ slL o).length 1) ((h.kill id).push (.row T (rowsAV (l ++ slL o)))) := by
  unfold pAppend
  rw [srcElems_slAV]
  simp only [ho]
  have e1 : (rowsAV l).take (l.length * 1) = rowsAV l := by rw [Nat.mul_one, ← rowsAV_len l, List.take_length]
  have e2 : rowsAV l ++ rowsAV (slL o) = rowsAV (l ++ slL o) := by simp [rowsAV]
  rw [flat_rows, e1, e2, List.length_map, List.length_append, Nat.mul_one]
  apply propext
  constructor
  · rintro ⟨-, -, -, -, hk⟩; exact hk
  · intro hk; exact ⟨trivial, trivial, by rw [rowsAV_len]; exact Nat.le_refl _, by simp [bounded, maxLen]; omega, hk⟩
theorem all_does (s : St) (hs : (slL s.Slots).length ≤ 100000) (hf : (slL s.Fields).length ≤ 100000) (h : AHeap) : CallsA Tryd.prog 30 [.agg s.cells] h (fun v h2 => ∃ id, v = .sl id 0 (rowsOf s).length 1 ∧ h2.objs id = some (.row 27 (rowsAV (rowsOf s))) ∧ h.next ≤ id ∧ id < h2.next ∧ Keeps h h2 (fun _ => False)) := by
  apply class_all_wp
  (repeat simp -dsimp -implicitDefEqProofs (disch := omega) only [↓rP, rQ, rO, rL, ↓reduceIte, Nat.reduceEqDiff, Nat.reduceAdd, Nat.reduceLeDiff, pBuild, fillA, ↓tyr])
  rw [bsl1 (slAV_leafy _)]
  (repeat simp -dsimp -implicitDefEqProofs (disch := omega) only [↓rP, rQ, rO, rL, ↓reduceIte, Nat.reduceEqDiff, Nat.reduceAdd, Nat.reduceLeDiff, pBuild, fillA, ↓tyr])
  have e0 : [slAV 1 encN s.Globals] = rowsAV [s.Globals] := rfl
  rw [e0]
  refine Eq.mpr (app_rows (l := [s.Globals]) (push_new _ _) (by simp; omega) _) ?_
  (repeat simp -dsimp -implicitDefEqProofs (disch := omega) only [↓rP, rQ, rO, rL, ↓reduceIte, Nat.reduceEqDiff, Nat.reduceAdd, Nat.reduceLeDiff, pBuild, fillA, ↓tyr])
  refine Eq.mpr (app_rows (push_new _ _) (by simp; omega) _) ?_
  (repeat simp -dsimp -implicitDefEqProofs (disch := omega) only [↓rP, rQ, rO, rL, ↓reduceIte, Nat.reduceEqDiff, Nat.reduceAdd, Nat.reduceLeDiff, pBuild, fillA, ↓tyr])
  refine ⟨_, ?_, push_new _ _, by simp; omega, by simp, ?_⟩
  · simp [rowsOf, Nat.add_comm, Nat.add_left_comm]
  · refine ((((Keeps.one _ _).killNew (Nat.le_refl _)).pushS _).killNew ?_).pushS _
    simp
theorem mk_ns (n : Nat) (hn : n ≤ 1000000) (T : TypeId) (h : AHeap) (K : AV → AHeap → Prop) : pMakeSl { e := T, sz := 1, by_ := 8 } [.int .i64 0] (.int .i64 (n : Int)) (.int .i64 (n : Int)) h K = K (.sl h.next 0 n 1) (h.push (.row T (nsAV (List.replicate n 0)))) := by
  have e : repC n [AV.int .i64 0] = nsAV (List.replicate n 0) := by simp [repC, nsAV]
  simp only [pMakeSl, Int.toNat_natCast, e]
  apply propext
  constructor
  · rintro ⟨-, -, -, -, -, hk⟩; exact hk
  · intro hk; exact ⟨by omega, by omega, by omega, by omega, rfl, hk⟩
theorem prs_snoc (l : List Nat) (x : Nat) : prsOf (l ++ [x]) = prsOf l ++ (bitsOf x).map fun k => (firstB x, k) := by
  simp [prsOf]
theorem setsIn_snoc (l : List (Option (List Nat))) (o : Option (List Nat)) : setsIn (l ++ [o]) = setsIn l ++ slL o := by
  simp [setsIn]
def IsCls (n : Nat) (S : List Nat) (out : List Nat) : Prop := ∃ f, Says f (prsOf S) ∧ f.length = n ∧ out = (List.range n).map (clsOf f)
theorem split_row {fid m : Nat} (hm : m ≤ 1000) {o : Option (List Nat)} (ho : (slL o).length ≤ 100000) (hx : ∀ x ∈ slL o, x < 18446744073709551616 ∧ ∀ k ∈ bitsOf x, k < m) {L0 : List Nat} {f : List Nat} (hs : Says f (prsOf L0)) (hfl : f.length = m) {h0 : AHeap} (hfid : fid < h0.next) (hob : h0.objs fid = some (.row 3 (nsAV f))) (A29 A30 A31 : AV) (Q : AExit → Fr → AHeap → Prop)
    (hQ : ∀ h2 g, h2.objs fid = some (.row 3 (nsAV g)) → Says g (prsOf (L0 ++ slL o)) → g.length = m → Keeps h0 h2 (fun i => i = fid) → Q (.exit 4) (frOf [(5, .sl fid 0 m 1), (29, A29), (30, A30), (31, A31)]) h2) :
    WP Tryd.prog 75 (.loop c_class_Split_11) (frOf [(5, .sl fid 0 m 1), (29, A29), (30, A30), (31, A31), (35, slAV 1 encN o), (36, .int .i64 (slL o).length), (37, .int .i64 0)]) h0 Q := by
  obtain ⟨I, hI⟩ : ∃ I : Nat → Fr → AHeap → Prop, I = (fun r fr hh => ∃ (j : Nat) (g : List Nat), r = (slL o).length - j ∧ j ≤ (slL o).length ∧ hh.objs fid = some (.row 3 (nsAV g)) ∧ Says g (prsOf (L0 ++ (slL o).take j)) ∧ g.length = m ∧ Keeps h0 hh (fun i => i = fid) ∧ fr = frOf [(5, .sl fid 0 m 1), (29, A29), (30, A30), (31, A31), (35, slAV 1 encN o), (36, .int .i64 (slL o).length), (37, .int .i64 j)]) := ⟨_, rfl⟩
  refine WP_loop mixed_ (by kernel_rfl) I (slL o).length (by rw [hI]; exact ⟨0, f, rfl, Nat.zero_le _, hob, by simpa using hs, hfl, Keeps.refl _ _, rfl⟩) ?_
  intro r fr hh hi
  rw [hI] at hi
  obtain ⟨j, g, rfl, hj, ho1, hsy, hgl, kp, rfl⟩ := hi
  apply class_Split_loop11
  (repeat simp -dsimp -implicitDefEqProofs (disch := omega) only [↓rP, rQ, rO, rL, ↓reduceIte, Nat.reduceEqDiff, Nat.reduceAdd, Nat.reduceLeDiff, pBuild, fillA, ↓tyr])
  refine Split_lt (fun hjl => ?_) (fun hjl => ?_)
  · obtain ⟨x, hxj⟩ : ∃ x, (slL o)[j]? = some x := ⟨_, List.getElem?_eq_getElem (by omega)⟩
    obtain ⟨hx1, hx2⟩ := hx x (List.mem_of_getElem? hxj)
    have ld : ∀ (H : AHeap) (K : AV → Prop), pLoad none (.iptr (encN x)) H K = K (.int .u64 (x : Nat)) := fun H K => by rw [pLoad_iptr]; simp [pCells, encN]
    (repeat simp -dsimp -implicitDefEqProofs (disch := omega) only [↓rP, rQ, rO, rL, ↓reduceIte, Nat.reduceEqDiff, Nat.reduceAdd, Nat.reduceLeDiff, pBuild, fillA, ↓tyr, pIndexAddr_slAV hxj, ld])
    have hn := kp.next
    refine Eq.mpr (by rw [← hgl]) ((join_does hsy hx1 (fun k hk => by rw [hgl]; exact hx2 k hk) (by omega) (show fid < hh.next by omega) ho1).mono ?_)
    rintro v h2 ⟨g', q1, q2, q3, q4⟩
    (repeat simp -dsimp -implicitDefEqProofs (disch := omega) only [↓rP, rQ, rO, rL, ↓reduceIte, Nat.reduceEqDiff, Nat.reduceAdd, Nat.reduceLeDiff, pBuild, fillA, ↓tyr, wk1 j (by omega)])
    rw [loopPost_normal, hI]
    refine ⟨(slL o).length - (j + 1), by omega, j + 1, g', rfl, by omega, q1, ?_, by omega, kp.trans q2 (fun _ _ e => e), by rw [hgl]⟩
    rw [List.take_add_one, hxj, ← List.append_assoc]
    exact (prs_snoc _ _) ▸ q3
  · (repeat simp -dsimp -implicitDefEqProofs (disch := omega) only [↓rP, rQ, rO, rL, ↓reduceIte, Nat.reduceEqDiff, Nat.reduceAdd, Nat.reduceLeDiff, pBuild, fillA, ↓tyr])
    have e : j = (slL o).length := by omega
    subst e
    rw [List.take_length] at hsy
    exact hQ hh g ho1 hsy hgl kp
theorem split_does (n : Int) (s : St) (hn : n ≤ 1000) (hs : (slL s.Slots).length ≤ 100000) (hf : (slL s.Fields).length ≤ 100000) (hl : ∀ o ∈ rowsOf s, (slL o).length ≤ 100000) (hx : ∀ x ∈ setsOf s, x < 18446744073709551616 ∧ ∀ k ∈ bitsOf x, k < n.toNat) (h : AHeap) :
    CallsA Tryd.prog 13 [.int .i64 n, .agg s.cells] h (fun v h2 => ∃ id out, v = .sl id 0 out.length 1 ∧ h2.objs id = some (.row 3 (nsAV out)) ∧ h.next ≤ id ∧ id < h2.next ∧ Keeps h h2 (fun _ => False) ∧ IsCls n.toNat (setsOf s) out) := by
  obtain ⟨m, hm⟩ : ∃ m, m = n.toNat := ⟨_, rfl⟩
  have hmx : max n 0 = ((m : Nat) : Int) := by omega
  rw [← hm] at hx ⊢
  apply class_Split_wp
  (repeat simp -dsimp -implicitDefEqProofs (disch := omega) only [↓rP, rQ, rO, rL, ↓reduceIte, Nat.reduceEqDiff, Nat.reduceAdd, Nat.reduceLeDiff, pBuild, fillA, ↓tyr])
  rw [maxA_two, hmx]
  (repeat simp -dsimp -implicitDefEqProofs (disch := omega) only [↓rP, rQ, rO, rL, ↓reduceIte, Nat.reduceEqDiff, Nat.reduceAdd, Nat.reduceLeDiff, pBuild, fillA, ↓tyr])
  rw [mk_ns m (by omega)]
  (repeat simp -dsimp -implicitDefEqProofs (disch := omega) only [↓rP, rQ, rO, rL, ↓reduceIte, Nat.reduceEqDiff, Nat.reduceAdd, Nat.reduceLeDiff, pBuild, fillA, ↓tyr])
  -- each site by itself
  obtain ⟨I, hI⟩ : ∃ I : Nat → Fr → AHeap → Prop, I = (fun r fr hh => ∃ (k : Nat) (g : List Nat), r = m - k ∧ k ≤ m ∧ g.length = m ∧ g.take k = List.range k ∧ hh.objs h.next = some (.row 3 (nsAV g)) ∧ hh.next = h.next + 1 ∧ Keeps h hh (fun _ => False) ∧ fr = frOf [(3, .iptr s.cells), (5, .sl h.next 0 m 1), (19, .int .i64 m), (20, .int .i64 k)]) := ⟨_, rfl⟩
  refine WP_loop mixed_ (by kernel_rfl) I m (by rw [hI]; exact ⟨0, List.replicate m 0, rfl, Nat.zero_le _, by simp, by simp, by simp, rfl, Keeps.one _ _, rfl⟩) ?_
  intro r fr hh hi
  rw [hI] at hi
  obtain ⟨k, g, rfl, hk, hgl, hgt, hob, hnx, kp, rfl⟩ := hi
  apply class_Split_loop3
  (repeat simp -dsimp -implicitDefEqProofs (disch := omega) only [↓rP, rQ, rO, rL, ↓reduceIte, Nat.reduceEqDiff, Nat.reduceAdd, Nat.reduceLeDiff, pBuild, fillA, ↓tyr])
  refine Split_lt (fun hkm => ?_) (fun hkm => ?_)
  · (repeat simp -dsimp -implicitDefEqProofs (disch := omega) only [↓rP, rQ, rO, rL, ↓reduceIte, Nat.reduceEqDiff, Nat.reduceAdd, Nat.reduceLeDiff, pBuild, fillA, ↓tyr, ix_ns (show k < m by omega), st_ns hob (show k < g.length by omega), wk1 k (by omega)])
    rw [loopPost_normal, hI]
    refine ⟨m - (k + 1), by omega, k + 1, g.set k k, rfl, by omega, by simpa using hgl, ?_, put_new _ _ _, hnx, kp.putNew (Nat.le_refl _) _, rfl⟩
    rw [List.take_add_one, List.take_set_of_le (Nat.le_refl _), hgt, List.getElem?_set_self (by omega), List.range_succ]; rfl
  have hkm2 : k = m := by omega
  subst hkm2
  have hgr : g = List.range k := by rw [← hgt, ← hgl, List.take_length]
  subst hgr
  (repeat simp -dsimp -implicitDefEqProofs (disch := omega) only [↓rP, rQ, rO, rL, ↓reduceIte, Nat.reduceEqDiff, Nat.reduceAdd, Nat.reduceLeDiff, pBuild, fillA, ↓tyr])
  clear hI I hgt
  refine (all_does s hs hf hh).mono ?_
  rintro _ h14 ⟨rid, rfl, hro, hrn, hrl, kp2⟩
  have kp14 := kp.go kp2
  have hob14 : h14.objs h.next = some (.row 3 (nsAV (List.range k))) := by rw [kp2.objs _ (by omega) (by simp)]; exact hob
  have hn14 := kp2.next
  (repeat simp -dsimp -implicitDefEqProofs (disch := omega) only [↓rP, rQ, rO, rL, ↓reduceIte, Nat.reduceEqDiff, Nat.reduceAdd, Nat.reduceLeDiff, pBuild, fillA, ↓tyr])
  -- row by row
  obtain ⟨R, hR⟩ : ∃ R, R = rowsOf s := ⟨_, rfl⟩
  have hset : setsOf s = setsIn R := by rw [hR]; rfl
  rw [← hR] at hro hl ⊢
  rw [hset] at hx ⊢
  have hRl : R.length ≤ 200001 := by rw [hR]; simp [rowsOf]; omega
  obtain ⟨I, hI⟩ : ∃ I : Nat → Fr → AHeap → Prop, I = (fun r fr h8 => ∃ (i : Nat) (g : List Nat), r = R.length - i ∧ i ≤ R.length ∧ h8.objs h.next = some (.row 3 (nsAV g)) ∧ Says g (prsOf (setsIn (R.take i))) ∧ g.length = k ∧ Keeps h14 h8 (fun i => i = h.next) ∧ fr = frOf [(5, .sl h.next 0 k 1), (29, .sl rid 0 R.length 1), (30, .int .i64 R.length), (31, .int .i64 i)]) := ⟨_, rfl⟩
  refine WP_loop mixed_ (by kernel_rfl) I R.length (by rw [hI]; exact ⟨0, List.range k, rfl, Nat.zero_le _, hob14, Says.start k, by simp, Keeps.refl _ _, rfl⟩) ?_
  intro r fr h8 hi
  rw [hI] at hi
  obtain ⟨i, g, rfl, hi, ho8, hsy, hgl8, kp8, rfl⟩ := hi
  apply class_Split_loop8
  (repeat simp -dsimp -implicitDefEqProofs (disch := omega) only [↓rP, rQ, rO, rL, ↓reduceIte, Nat.reduceEqDiff, Nat.reduceAdd, Nat.reduceLeDiff, pBuild, fillA, ↓tyr])
  refine Split_lt (fun hil => ?_) (fun hil => ?_)
  · obtain ⟨o, hxo⟩ : ∃ o, R[i]? = some o := ⟨_, List.getElem?_eq_getElem (by omega)⟩
    have hro8 : h8.objs rid = some (.row 27 (rowsAV R)) := by rw [kp8.objs _ hrl (by omega)]; exact hro
    have ld : ∀ (K : AV → Prop), pLoad none (.ptr rid i) h8 K = K (slAV 1 encN o) := fun K => by
      rw [pLoad_ptr hro8, pCells_none_some (v := slAV 1 encN o) (by simp [rowsAV, hxo])]
    have hmem : o ∈ R := List.mem_of_getElem? hxo
    (repeat simp -dsimp -implicitDefEqProofs (disch := omega) only [↓rP, rQ, rO, rL, ↓reduceIte, Nat.reduceEqDiff, Nat.reduceAdd, Nat.reduceLeDiff, pBuild, fillA, ↓tyr, ix_ns (show i < R.length by omega), ↓ld])
    refine split_row (by omega) (hl o hmem) (fun x hxx => hx x (List.mem_flatMap.2 ⟨o, hmem, hxx⟩)) hsy hgl8 (by have := kp8.next; omega) ho8 _ _ _ _ ?_
    intro h2 g' q1 q2 q3 q4
    (repeat simp -dsimp -implicitDefEqProofs (disch := omega) only [↓rP, rQ, rO, rL, ↓reduceIte, Nat.reduceEqDiff, Nat.reduceAdd, Nat.reduceLeDiff, pBuild, fillA, ↓tyr, wk1 i (by omega)])
    rw [loopPost_normal, hI]
    refine ⟨R.length - (i + 1), by omega, i + 1, g', rfl, by omega, q1, ?_, q3, kp8.trans q4 (fun _ _ e => e), rfl⟩
    rw [List.take_add_one, hxo]
    exact (setsIn_snoc _ _) ▸ q2
  have hil2 : i = R.length := by omega
  subst hil2
  rw [List.take_length] at hsy
  (repeat simp -dsimp -implicitDefEqProofs (disch := omega) only [↓rP, rQ, rO, rL, ↓reduceIte, Nat.reduceEqDiff, Nat.reduceAdd, Nat.reduceLeDiff, pBuild, fillA, ↓tyr])
  clear hI I hi
  rw [mk_ns k (by omega)]
  (repeat simp -dsimp -implicitDefEqProofs (disch := omega) only [↓rP, rQ, rO, rL, ↓reduceIte, Nat.reduceEqDiff, Nat.reduceAdd, Nat.reduceLeDiff, pBuild, fillA, ↓tyr])
  -- the classes
  have hoid := kp8.next
  obtain ⟨I, hI⟩ : ∃ I : Nat → Fr → AHeap → Prop, I = (fun r fr hh => ∃ (i : Nat) (g' out : List Nat), r = k - i ∧ i ≤ k ∧ hh.objs h.next = some (.row 3 (nsAV g')) ∧ Low g' ∧ g'.length = k ∧ (∀ x, root g' x = root g x) ∧ hh.objs h8.next = some (.row 3 (nsAV out)) ∧ out.length = k ∧ out.take i = (List.range i).map (clsOf g) ∧ Keeps h8 hh (fun i => i = h.next) ∧ h8.next < hh.next ∧ fr = frOf [(5, .sl h.next 0 k 1), (11, .sl h8.next 0 k 1), (12, .int .i64 (leadsB g i : Nat)), (50, .int .i64 k), (51, .int .i64 i)]) := ⟨_, rfl⟩
  refine WP_loop mixed_ (by kernel_rfl) I k (by rw [hI]; exact ⟨0, g, List.replicate k 0, rfl, Nat.zero_le _, by rw [push_old (by omega)]; exact ho8, hsy.1, hgl8, fun _ => rfl, push_new _ _, by simp, by simp, (Keeps.refl _ _).pushS _, by simp, rfl⟩) ?_
  intro r fr h9 hi
  rw [hI] at hi
  obtain ⟨i, g', out, rfl, hik, q1, q2, q3, q4, q5, q6, q7, q8, q8n, rfl⟩ := hi
  apply class_Split_loop18
  (repeat simp -dsimp -implicitDefEqProofs (disch := omega) only [↓rP, rQ, rO, rL, ↓reduceIte, Nat.reduceEqDiff, Nat.reduceAdd, Nat.reduceLeDiff, pBuild, fillA, ↓tyr])
  refine Split_lt (fun hil => ?_) (fun hil => ?_)
  · have hil3 : i < k := by omega
    (repeat simp -dsimp -implicitDefEqProofs (disch := omega) only [↓rP, rQ, rO, rL, ↓reduceIte, Nat.reduceEqDiff, Nat.reduceAdd, Nat.reduceLeDiff, pBuild, fillA, ↓tyr])
    have htd := top_does q2 (k := i) (by omega) q1
    rw [q3] at htd
    refine htd.mono ?_
    rintro _ h10 ⟨rfl, g2, rfl, r2, r3, r4⟩
    have hti : root g' i ≤ i := root_le i
    have q5' : (h9.put h.next (.row 3 (nsAV g2))).objs h8.next = some (.row 3 (nsAV out)) := by rw [put_old (by omega)]; exact q5
    have hroots : ∀ x, root g2 x = root g x := fun x => by rw [r4, q4]
    have hcls_i : clsOf g i = leadsB g (root g i) + 1 := rfl
    have hl10 : leadsB g i ≤ 1000 := by
      have h1 := leadsB_mono g (Nat.le_of_lt hil3)
      have h2 : leadsB g k ≤ (List.range k).length := List.countP_le_length
      simp at h2; omega
    (repeat simp -dsimp -implicitDefEqProofs (disch := omega) only [↓rP, rQ, rO, rL, ↓reduceIte, Nat.reduceEqDiff, Nat.reduceAdd, Nat.reduceLeDiff, pBuild, fillA, ↓tyr])
    refine Split_lt (fun htl => ?_) (fun htl => ?_)
    · have htl2 : root g' i < i := by omega
      have hget : out[root g' i]? = some (clsOf g i) := by
        have h1 := congrArg (fun l => l[root g' i]?) q7
        simp only [List.getElem?_take, List.getElem?_map] at h1
        rw [if_pos htl2, List.getElem?_range htl2] at h1
        rw [h1, q4]
        simp only [Option.map_some, Option.some.injEq]
        exact clsOf_eq.2 (root_root i)
      (repeat simp -dsimp -implicitDefEqProofs (disch := omega) only [↓rP, rQ, rO, rL, ↓reduceIte, Nat.reduceEqDiff, Nat.reduceAdd, Nat.reduceLeDiff, pBuild, fillA, ↓tyr, ix_ns (show root g' i < k by omega), ld_ns q5' hget, ix_ns hil3, st_ns q5' (show i < out.length by omega), wk1 i (by omega)])
      rw [loopPost_normal, hI]
      refine ⟨k - (i + 1), by omega, i + 1, g2, out.set i (clsOf g i), rfl, by omega, by rw [put_old (by omega), put_new], r2, by omega, hroots, put_new _ _ _, by simpa using q6, ?_, (q8.putS rfl _).putNew (Nat.le_refl _) _, q8n, ?_⟩
      · rw [List.take_add_one, List.take_set_of_le (Nat.le_refl _), q7, List.getElem?_set_self (by omega), List.range_succ, List.map_append]; rfl
      · rw [leadsB_succ, if_neg (by rw [← q4]; omega)]; rfl
    · have hte : root g i = i := by rw [← q4]; omega
      have hcls : clsOf g i = leadsB g i + 1 := by rw [hcls_i, hte]
      (repeat simp -dsimp -implicitDefEqProofs (disch := omega) only [↓rP, rQ, rO, rL, ↓reduceIte, Nat.reduceEqDiff, Nat.reduceAdd, Nat.reduceLeDiff, pBuild, fillA, ↓tyr, wk1 (leadsB g i) (by omega), ix_ns hil3, st_ns q5' (show i < out.length by omega), wk1 i (by omega)])
      rw [loopPost_normal, hI]
      refine ⟨k - (i + 1), by omega, i + 1, g2, out.set i (clsOf g i), rfl, by omega, by rw [put_old (by omega), put_new], r2, by omega, hroots, by rw [hcls]; exact put_new _ _ _, by simpa using q6, ?_, (q8.putS rfl _).putNew (Nat.le_refl _) _, q8n, ?_⟩
      · rw [List.take_add_one, List.take_set_of_le (Nat.le_refl _), q7, List.getElem?_set_self (by omega), List.range_succ, List.map_append]; rfl
      · rw [leadsB_succ, if_pos hte]
  · (repeat simp -dsimp -implicitDefEqProofs (disch := omega) only [↓rP, rQ, rO, rL, ↓reduceIte, Nat.reduceEqDiff, Nat.reduceAdd, Nat.reduceLeDiff, pBuild, fillA, ↓tyr])
    have hik2 : i = k := by omega
    subst hik2
    rw [← q6, List.take_length] at q7
    refine ⟨h8.next, out, by rw [q6], q5, by omega, q8n, ?_, g, hsy, hgl8, by rw [q7, q6]⟩
    refine ⟨by have := q8.next; omega, fun j hj _ => ?_⟩
    rw [q8.objs j (by omega) (by omega), kp8.objs j (by omega) (by omega), kp14.objs j hj (by simp)]
end Go.Proofs.YtopfjochppdnfaaDoor
end

section
/- The class of a set; the sample at work. (As in ClRef2, ClLaw, ClIs; without the document's functions.) -/
set_option maxRecDepth 100000
set_option maxHeartbeats 1000000
namespace Go.Proofs.YtopfjochppdnfaaDoor
open Go.Abs
theorem says_unique {f g : List Nat} {P : List (Nat × Nat)} (hf : Says f P) (hg : Says g P) (x : Nat) : root f x = root g x := by
  have key : ∀ {f g : List Nat}, Says f P → Says g P → root f x ≤ root g x := fun {f g} hf hg => by
    have h1 : root g (root g x) = root g x := root_root x
    have h2 := (hf.2 _ _).2 ((hg.2 _ _).1 h1)
    rw [← h2]; exact root_le _
  exact Nat.le_antisymm (key hf hg) (key hg hf)
theorem isCls_of {S out : List Nat} {m : Nat} {f : List Nat} (hf : Says f (prsOf S)) (h : IsCls m S out) : out = (List.range m).map (clsOf f) := by
  obtain ⟨g, h1, h2, rfl⟩ := h
  have : clsOf g = clsOf f := by funext k; exact clsOf_congr (says_unique h1 hf) k
  rw [this]
theorem of_does (x : Nat) (hx : x < 18446744073709551616) {id : Nat} {out : List Nat} (hl : out.length ≤ 1000) {h : AHeap} (ho : h.objs id = some (.row 3 (nsAV out))) : CallsA Tryd.prog 17 [.int .u64 (x : Nat), .sl id 0 out.length 1] h (fun v h2 => v = .int .i64 (out.getD (firstB x) 0 : Nat) ∧ h2 = h) := by
  apply class_Of_wp
  (repeat simp -dsimp -implicitDefEqProofs (disch := omega) only [↓rP, rQ, rO, rL, ↓reduceIte, Nat.reduceEqDiff, Nat.reduceAdd, Nat.reduceLeDiff, pBuild, fillA, ↓tyr])
  refine CallsA.go (tz_does x hx _) ?_
  have hf : firstB x ≤ 64 := by
    by_cases h0 : x = 0
    · subst h0; rw [firstB_zero]; exact Nat.le_refl _
    · exact Nat.le_of_lt (firstB_low h0 hx).1
  (repeat simp -dsimp -implicitDefEqProofs (disch := omega) only [↓rP, rQ, rO, rL, ↓reduceIte, Nat.reduceEqDiff, Nat.reduceAdd, Nat.reduceLeDiff, pBuild, fillA, ↓tyr])
  refine Split_lt (fun hlt => ?_) (fun hlt => ?_)
  · have hlt2 : firstB x < out.length := by omega
    have hget : out[firstB x]? = some (out.getD (firstB x) 0) := by
      rw [List.getD_eq_getElem?_getD, List.getElem?_eq_getElem hlt2]; rfl
    (repeat simp -dsimp -implicitDefEqProofs (disch := omega) only [↓rP, rQ, rO, rL, ↓reduceIte, Nat.reduceEqDiff, Nat.reduceAdd, Nat.reduceLeDiff, pBuild, fillA, ↓tyr, ix_ns hlt2, ld_ns ho hget])
  · (repeat simp -dsimp -implicitDefEqProofs (disch := omega) only [↓rP, rQ, rO, rL, ↓reduceIte, Nat.reduceEqDiff, Nat.reduceAdd, Nat.reduceLeDiff, pBuild, fillA, ↓tyr])
    rw [List.getD_eq_getElem?_getD, List.getElem?_eq_none (by omega)]; rfl
def sampleS : St := ⟨none, some [5, 0], none⟩
theorem sample_out {out : List Nat} (h : IsCls 3 [5, 0] out) : out = [1, 2, 1] := by
  have r0 : root [0, 1, 2] 0 = 0 := root_stop (by decide)
  have r2 : root [0, 1, 2] 2 = 2 := root_stop (by decide)
  have p : prsOf [5, 0] = [] ++ [(0, 0)] ++ [(0, 2)] := by decide
  have s0 := Says.start 3
  have e3 : List.range 3 = [0, 1, 2] := by decide
  rw [e3] at s0
  have s1 := s0.link (i := 0) (j := 0) (by decide) (by decide)
  rw [r0] at s1
  have s2 := s1.link (i := 0) (j := 2) (by decide) (by decide)
  have e1 : ([0, 1, 2] : List Nat).set (max 0 0) (min 0 0) = [0, 1, 2] := by decide
  rw [e1, r0, r2] at s2
  have e2 : ([0, 1, 2] : List Nat).set (max 0 2) (min 0 2) = [0, 1, 0] := by decide
  rw [e2, ← p] at s2
  have q0 : root [0, 1, 0] 0 = 0 := root_stop (by decide)
  have q1 : root [0, 1, 0] 1 = 1 := root_stop (by decide)
  have q2 : root [0, 1, 0] 2 = 0 := by rw [root_step (by decide)]; exact q0
  rw [isCls_of s2 h]
  have l0 : leadsB [0, 1, 0] 0 = 0 := rfl
  have l1 : leadsB [0, 1, 0] 1 = 1 := by rw [show (1 : Nat) = 0 + 1 from rfl, leadsB_succ, if_pos q0, l0]
  rw [e3]
  simp [clsOf, q0, q1, q2, l0, l1]
theorem alive_k (h : AHeap) : CallsA Tryd.prog 12 [] h (fun v h2 => v = .bool true ∧ Keeps h h2 (fun _ => False)) := by
  apply padlocklaw12_alive_wp
  have b2 : ∀ (H : AHeap) (K : AV → AHeap → Prop), pBuildSl true { e := 23, sz := 1, by_ := 8 } [AV.int .u64 0] 2 [(0, .int .u64 5), (1, .int .u64 0)] H K = K (slAV 1 encN (some [5, 0])) H := fun H K => by
    simp [pBuildSl, fillE, AV.fits, AV.cells, slAV, encN, List.replicate]
  (repeat simp -dsimp -implicitDefEqProofs (disch := omega) only [↓rP, rQ, rO, rL, ↓reduceIte, Nat.reduceEqDiff, Nat.reduceAdd, Nat.reduceLeDiff, pBuild, fillA, ↓tyr, b2])
  have hb : bitsOf 5 = [0, 2] := by decide
  refine (split_does 3 sampleS (by decide) (by simp [sampleS]) (by simp [sampleS]) (fun o ho => by simp [rowsOf, sampleS] at ho; rw [ho]; simp) (fun x hx => by
    have : x = 5 ∨ x = 0 := by simpa [setsOf, setsIn, rowsOf, sampleS] using hx
    rcases this with rfl | rfl
    · refine ⟨by decide, fun k hk => ?_⟩
      rw [hb] at hk; simp at hk; simp; omega
    · exact ⟨by decide, fun k hk => by rw [bits_zero] at hk; cases hk⟩) h).mono ?_
  rintro _ h2 ⟨id, out, rfl, ho, h1, hlt, kp, hc⟩
  have hout : out = [1, 2, 1] := sample_out (by simpa [setsOf, setsIn, rowsOf, sampleS] using hc)
  subst hout
  have g0 : ([1, 2, 1] : List Nat)[0]? = some 1 := rfl
  have g1 : ([1, 2, 1] : List Nat)[1]? = some 2 := rfl
  have g2 : ([1, 2, 1] : List Nat)[2]? = some 1 := rfl
  have x0 := fun K => ix_ns (fid := id) (n := 3) (k := 0) (by decide) K
  have x1 := fun K => ix_ns (fid := id) (n := 3) (k := 1) (by decide) K
  have x2 := fun K => ix_ns (fid := id) (n := 3) (k := 2) (by decide) K
  have f4 : firstB 4 = 2 := by decide
  (repeat simp -dsimp -implicitDefEqProofs (disch := omega) only [↓rP, rQ, rO, rL, ↓reduceIte, Nat.reduceEqDiff, Nat.reduceAdd, Nat.reduceLeDiff, pBuild, fillA, ↓tyr])
  refine Eq.mpr (x0 _) ?_
  (repeat simp -dsimp -implicitDefEqProofs (disch := omega) only [↓rP, rQ, rO, rL, ↓reduceIte, Nat.reduceEqDiff, Nat.reduceAdd, Nat.reduceLeDiff, pBuild, fillA, ↓tyr, ld_ns ho g0])
  refine Eq.mpr (x1 _) ?_
  (repeat simp -dsimp -implicitDefEqProofs (disch := omega) only [↓rP, rQ, rO, rL, ↓reduceIte, Nat.reduceEqDiff, Nat.reduceAdd, Nat.reduceLeDiff, pBuild, fillA, ↓tyr, ld_ns ho g1])
  refine Eq.mpr (x2 _) ?_
  (repeat simp -dsimp -implicitDefEqProofs (disch := omega) only [↓rP, rQ, rO, rL, ↓reduceIte, Nat.reduceEqDiff, Nat.reduceAdd, Nat.reduceLeDiff, pBuild, fillA, ↓tyr, ld_ns ho g2])
  refine CallsA.go (of_does 4 (by decide) (out := [1, 2, 1]) (by decide) ho) ?_
  rw [f4]
  (repeat simp -dsimp -implicitDefEqProofs (disch := omega) only [↓rP, rQ, rO, rL, ↓reduceIte, Nat.reduceEqDiff, Nat.reduceAdd, Nat.reduceLeDiff, pBuild, fillA, ↓tyr])
  refine CallsA.go (of_does 0 (by decide) (out := [1, 2, 1]) (by decide) ho) ?_
  rw [firstB_zero]
  (repeat simp -dsimp -implicitDefEqProofs (disch := omega) only [↓rP, rQ, rO, rL, ↓reduceIte, Nat.reduceEqDiff, Nat.reduceAdd, Nat.reduceLeDiff, pBuild, fillA, ↓tyr])
  exact ⟨rfl, kp⟩
theorem alive_does (h : AHeap) : CallsA Tryd.prog 12 [] h (fun v h2 => v = .bool true ∧ h2 = h) := CallsA.forget (by simp [idsIn]) (alive_k h)
end Go.Proofs.YtopfjochppdnfaaDoor
end

