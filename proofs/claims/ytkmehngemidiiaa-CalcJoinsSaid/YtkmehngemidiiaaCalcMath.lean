/- calc: expressions in plain words: what items take, whether they are an expression, what it comes to. -/
import Derived.Test.YtkmehngemidiiaaTypes
import Derived.Test.YtkmehngemidiiaaAbsDblC
set_option linter.unusedVariables false
set_option linter.unusedSimpArgs false
set_option maxRecDepth 8000
namespace Go.Proofs.Ytkmehngemidiiaa
open Go.Abs

abbrev It := Api_Item
/-- How many values an op takes. -/
def needsI (op : Int) : Int := if 1 ≤ op ∧ op ≤ 3 then 0 else if 4 ≤ op ∧ op ≤ 7 then 1 else if 8 ≤ op ∧ op ≤ 10 then 2 else -1
/-- Whether an item can be, with so many slots. -/
def fitsB (x : It) (s : Int) : Bool :=
  if x.Op = 1 then decide (x.Bin = 0)
  else if x.Op = 2 then decide (x.Bin = 0) && decide ((x.N : Int) < max s 0)
  else if x.Op = 3 then decide (x.Bin = 0) && decide (x.N < 16)
  else if 4 ≤ x.Op ∧ x.Op ≤ 7 then decide (x.Bin = 0) && decide (x.N = 0)
  else if x.Op = 8 then decide (x.N = 0) && decide (0 ≤ x.Bin ∧ x.Bin ≤ 8)
  else if x.Op = 9 then decide (x.N = 0) && decide (0 ≤ x.Bin ∧ x.Bin ≤ 8 ∧ x.Bin ≠ 4)
  else if x.Op = 10 then decide (x.N = 0) && decide (x.Bin = 5 ∨ x.Bin = 6)
  else false
theorem fits_needs {x : It} {s : Int} (h : fitsB x s = true) : 0 ≤ needsI x.Op ∧ needsI x.Op ≤ 2 := by
  unfold fitsB at h
  unfold needsI
  by_cases h1 : 1 ≤ x.Op ∧ x.Op ≤ 3
  · rw [if_pos h1]; omega
  · rw [if_neg h1]
    by_cases h2 : 4 ≤ x.Op ∧ x.Op ≤ 7
    · rw [if_pos h2]; omega
    · rw [if_neg h2]
      by_cases h3 : 8 ≤ x.Op ∧ x.Op ≤ 10
      · rw [if_pos h3]; omega
      · rw [if_neg (by omega), if_neg (by omega), if_neg (by omega), if_neg h2, if_neg (by omega), if_neg (by omega), if_neg (by omega)] at h
        cases h
def takesI (x : It) (s : Int) : Int := if fitsB x s then needsI x.Op else -1

/-- How high the stack is behind items. -/
def high : List It → Int
  | [] => 0
  | x :: l => 1 - needsI x.Op + high l
theorem high_append (l m : List It) : high (l ++ m) = high l + high m := by
  induction l with
  | nil => simp [high]
  | cons x l ih => simp only [List.cons_append, high, ih]; omega
theorem high_snoc (l : List It) (x : It) : high (l ++ [x]) = high l + (1 - needsI x.Op) := by rw [high_append]; simp [high]

/-- From the left: each item can be, and finds what it takes. -/
def okL (s : Int) (l : List It) : Prop := ∀ k, k < l.length → ∀ x, l[k]? = some x → fitsB x s = true ∧ needsI x.Op ≤ high (l.take k)
/-- Items are an expression. -/
def goodP (l : List It) (s : Int) : Prop := okL s l ∧ high l = 1 ∧ l.length ≤ 64
theorem high_take_succ {l : List It} {k : Nat} {x : It} (hx : l[k]? = some x) : high (l.take (k + 1)) = high (l.take k) + (1 - needsI x.Op) := by
  rw [List.take_add_one, hx]; exact high_snoc _ _
theorem okL_high {s : Int} {l : List It} (h : okL s l) : ∀ k, k ≤ l.length → 0 ≤ high (l.take k) ∧ (0 < k → 1 ≤ high (l.take k)) := by
  intro k
  induction k with
  | zero => intro _; simp [high]
  | succ k ih =>
    intro hk
    have hx : l[k]? = some l[k] := List.getElem?_eq_getElem (by omega)
    obtain ⟨h1, h2⟩ := h k (by omega) _ hx
    rw [high_take_succ hx]
    omega

/-! ### What items do -/
def sgN (n : Nat) : Int := IntKind.i64.wrap n
def unN (op : Int) (a : Nat) : Nat := if op = 4 then (IntKind.u64.wrap (0 - (a : Int))).toNat else if op = 5 then negR a else if op = 6 then FloatKind.f64.nearest (sgN a) else (IntKind.u64.wrap (truncN a)).toNat
def binN (x : It) (a b : Nat) : Option Nat := if x.Op = 9 then some (realR x.Bin a b) else if (intR x.Bin (sgN a) (sgN b)).2 then some (IntKind.u64.wrap (intR x.Bin (sgN a) (sgN b)).1).toNat else none
def leafN (slots : List Nat) (inputs : List Int) (x : It) : Nat := if x.Op = 1 then x.N else if x.Op = 2 then slots.getD x.N 0 else (IntKind.u64.wrap (inputs.getD x.N 0)).toNat

/-- One item on a stack, its top first; none: a trap. -/
def stepN (slots : List Nat) (inputs : List Int) (st : List Nat) (x : It) : Option (List Nat) :=
  if needsI x.Op = 0 then some (leafN slots inputs x :: st)
  else if needsI x.Op = 1 then match st with | a :: r => some (unN x.Op a :: r) | [] => some []
  else match st with | b :: a :: r => (binN x a b).map (· :: r) | _ => some []
def runN (slots : List Nat) (inputs : List Int) : List Nat → List It → Option (List Nat)
  | st, [] => some st
  | st, x :: l => match stepN slots inputs st x with | some st' => runN slots inputs st' l | none => none
theorem runN_snoc (slots : List Nat) (inputs : List Int) : ∀ (l : List It) (st : List Nat) (x : It), runN slots inputs st (l ++ [x]) = (runN slots inputs st l).bind fun st' => stepN slots inputs st' x
  | [], st, x => by simp only [List.nil_append, runN, Option.bind_some]; cases stepN slots inputs st x <;> rfl
  | y :: l, st, x => by
    simp only [List.cons_append, runN]
    cases stepN slots inputs st y with
    | none => rfl
    | some st' => exact runN_snoc slots inputs l st' x
theorem runN_append (slots : List Nat) (inputs : List Int) : ∀ (l m : List It) (st : List Nat), runN slots inputs st (l ++ m) = (runN slots inputs st l).bind fun st' => runN slots inputs st' m
  | [], m, st => by simp [runN]
  | y :: l, m, st => by
    simp only [List.cons_append, runN]
    cases stepN slots inputs st y with
    | none => rfl
    | some st' => exact runN_append slots inputs l m st'

open Classical in
/-- What an expression comes to, and the trap's number. -/
noncomputable def evalN (slots : List Nat) (inputs : List Int) (l : List It) : Nat × Int :=
  if goodP l slots.length then match runN slots inputs [] l with | some st => (st.headD 0, 0) | none => (0, 1) else (0, 0)

theorem stepN_len {slots : List Nat} {inputs : List Int} {st st' : List Nat} {x : It} {s : Int} (hf : fitsB x s = true) (hn : needsI x.Op ≤ st.length) (h : stepN slots inputs st x = some st') : (st'.length : Int) = st.length + (1 - needsI x.Op) := by
  have hnn := fits_needs hf
  unfold stepN at h
  split at h
  · cases h; simp; omega
  · split at h
    · match st, h with
      | a :: r, h => cases h; simp; omega
      | [], h => simp at hn; omega
    · match st, h with
      | b :: a :: r, h =>
        simp only [Option.map_eq_some_iff] at h
        obtain ⟨v, -, rfl⟩ := h
        simp; omega
      | [b], h => simp at hn; omega
      | [], h => simp at hn; omega
theorem runN_len {slots : List Nat} {inputs : List Int} {l : List It} {s : Int} (h : okL s l) : ∀ k, k ≤ l.length → ∀ st, runN slots inputs [] (l.take k) = some st → (st.length : Int) = high (l.take k) := by
  intro k
  induction k with
  | zero => intro _ st hst; simp [runN] at hst; subst hst; simp [high]
  | succ k ih =>
    intro hk st hst
    have hx : l[k]? = some l[k] := List.getElem?_eq_getElem (by omega)
    rw [List.take_add_one, hx] at hst
    simp only [Option.toList_some] at hst
    rw [runN_snoc] at hst
    cases hr : runN slots inputs [] (l.take k) with
    | none => rw [hr] at hst; cases hst
    | some st0 =>
      rw [hr] at hst
      simp only [Option.bind_some] at hst
      obtain ⟨h1, h2⟩ := h k (by omega) _ hx
      have := ih (by omega) st0 hr
      rw [high_take_succ hx, stepN_len h1 (by omega) hst]
      omega

/-! ### From the right: each value with the place where it begins, and whether it traps -/
structure An where
  v : Nat
  from_ : Nat
  bad : Bool
  deriving DecidableEq, Inhabited
def annStep (slots : List Nat) (inputs : List Int) (k : Nat) (st : List An) (x : It) : List An :=
  if needsI x.Op = 0 then ⟨leafN slots inputs x, k, false⟩ :: st
  else if needsI x.Op = 1 then match st with | a :: r => ⟨unN x.Op a.v, a.from_, a.bad⟩ :: r | [] => []
  else match st with
    | b :: a :: r => (if a.bad || b.bad then ⟨0, a.from_, true⟩ else match binN x a.v b.v with | some v => ⟨v, a.from_, false⟩ | none => ⟨0, a.from_, true⟩) :: r
    | _ => []
def annN (slots : List Nat) (inputs : List Int) (l : List It) : Nat → List An
  | 0 => []
  | k + 1 => match l[k]? with | some x => annStep slots inputs k (annN slots inputs l k) x | none => annN slots inputs l k

theorem annN_len {slots : List Nat} {inputs : List Int} {l : List It} {s : Int} (h : okL s l) : ∀ k, k ≤ l.length → ((annN slots inputs l k).length : Int) = high (l.take k) := by
  intro k
  induction k with
  | zero => intro _; simp [annN, high]
  | succ k ih =>
    intro hk
    have hx : l[k]? = some l[k] := List.getElem?_eq_getElem (by omega)
    obtain ⟨h1, h2⟩ := h k (by omega) _ hx
    have hn := fits_needs h1
    have := ih (by omega)
    rw [high_take_succ hx]
    simp only [annN, hx]
    unfold annStep
    generalize annN slots inputs l k = st at *
    split
    · simp; omega
    · split
      · match st with
        | a :: r => simp at this ⊢; omega
        | [] => simp at this; omega
      · match st with
        | b :: a :: r => simp at this ⊢; omega
        | [b] => simp at this; omega
        | [] => simp at this; omega

/-- What lies under the top is the stack behind the items ahead of its beginning. -/
theorem annN_under {slots : List Nat} {inputs : List Int} {l : List It} {s : Int} (h : okL s l) : ∀ k, k < l.length → ∃ a, annN slots inputs l (k + 1) = a :: annN slots inputs l a.from_ ∧ a.from_ ≤ k := by
  intro k
  induction k using Nat.strongRecOn with
  | _ k ih =>
    intro hk
    have hx : l[k]? = some l[k] := List.getElem?_eq_getElem (by omega)
    obtain ⟨h1, h2⟩ := h k (by omega) _ hx
    have hn := fits_needs h1
    have hlen := annN_len (slots := slots) (inputs := inputs) h k (by omega)
    have top : ∀ j, j ≤ k → annN slots inputs l j ≠ [] → ∃ a, annN slots inputs l j = a :: annN slots inputs l a.from_ ∧ a.from_ + 1 ≤ j := by
      intro j hj hne
      match j, hj, hne with
      | 0, _, hne => exact absurd rfl hne
      | j + 1, hj, _ =>
        obtain ⟨a, e1, e2⟩ := ih j (by omega) (by omega)
        exact ⟨a, e1, by omega⟩
    have hstep : annN slots inputs l (k + 1) = annStep slots inputs k (annN slots inputs l k) l[k] := by simp only [annN, hx]
    rw [hstep]
    unfold annStep
    split
    · exact ⟨⟨_, k, false⟩, rfl, Nat.le_refl _⟩
    · rename_i c0
      split
      · rename_i c1
        have hne : annN slots inputs l k ≠ [] := by intro e; rw [e] at hlen; simp at hlen; omega
        obtain ⟨a, e1, e2⟩ := top k (Nat.le_refl _) hne
        rw [e1]
        exact ⟨⟨_, a.from_, _⟩, rfl, by show a.from_ ≤ k; omega⟩
      · rename_i c1
        have hne : annN slots inputs l k ≠ [] := by intro e; rw [e] at hlen; simp at hlen; omega
        obtain ⟨b, e1, e2⟩ := top k (Nat.le_refl _) hne
        have hne2 : annN slots inputs l b.from_ ≠ [] := by intro e; rw [e1, e] at hlen; simp at hlen; omega
        obtain ⟨a, e3, e4⟩ := top b.from_ (by omega) hne2
        rw [e1, e3]
        refine ⟨if a.bad || b.bad then ⟨0, a.from_, true⟩ else match binN l[k] a.v b.v with | some v => ⟨v, a.from_, false⟩ | none => ⟨0, a.from_, true⟩, ?_, ?_⟩
        · have : ∀ (c : Bool) (o : Option Nat), (if c then (⟨0, a.from_, true⟩ : An) else match o with | some v => ⟨v, a.from_, false⟩ | none => ⟨0, a.from_, true⟩).from_ = a.from_ := by
            intro c o; cases c <;> cases o <;> rfl
          rw [this]
        · have : ∀ (c : Bool) (o : Option Nat), (if c then (⟨0, a.from_, true⟩ : An) else match o with | some v => ⟨v, a.from_, false⟩ | none => ⟨0, a.from_, true⟩).from_ = a.from_ := by
            intro c o; cases c <;> cases o <;> rfl
          rw [this]; omega

/-- Without a trap both stacks are one; with one it stays to the end. -/
theorem annN_run {slots : List Nat} {inputs : List Int} {l : List It} {s : Int} (h : okL s l) : ∀ k, k ≤ l.length →
    match runN slots inputs [] (l.take k) with
    | some st => (annN slots inputs l k).map An.v = st ∧ ∀ a ∈ annN slots inputs l k, a.bad = false
    | none => ∃ a ∈ annN slots inputs l k, a.bad = true := by
  intro k
  induction k with
  | zero => intro _; simp [runN, annN]
  | succ k ih =>
    intro hk
    have hx : l[k]? = some l[k] := List.getElem?_eq_getElem (by omega)
    obtain ⟨h1, h2⟩ := h k (by omega) _ hx
    have hn := fits_needs h1
    have hlen := annN_len (slots := slots) (inputs := inputs) h k (by omega)
    have ih := ih (by omega)
    rw [List.take_add_one, hx]
    simp only [Option.toList_some]
    rw [runN_snoc]
    have hstep : annN slots inputs l (k + 1) = annStep slots inputs k (annN slots inputs l k) l[k] := by simp only [annN, hx]
    rw [hstep]
    generalize annN slots inputs l k = st at *
    cases hr : runN slots inputs [] (l.take k) with
    | none =>
      rw [hr] at ih
      obtain ⟨a, ha, hb⟩ := ih
      simp only [Option.bind_none]
      unfold annStep
      split
      · exact ⟨a, List.mem_cons_of_mem _ ha, hb⟩
      · split
        · match st, ha, hlen with
          | b :: r, ha, _ =>
            rcases List.mem_cons.1 ha with rfl | ha
            · exact ⟨_, List.mem_cons_self .., hb⟩
            · exact ⟨a, List.mem_cons_of_mem _ ha, hb⟩
        · match st, ha, hlen with
          | [b], _, hlen => simp at hlen; omega
          | b :: c :: r, ha, _ =>
            rcases List.mem_cons.1 ha with rfl | ha
            · exact ⟨_, List.mem_cons_self .., by simp [hb]⟩
            · rcases List.mem_cons.1 ha with rfl | ha
              · exact ⟨_, List.mem_cons_self .., by simp [hb]⟩
              · exact ⟨a, List.mem_cons_of_mem _ ha, hb⟩
    | some rs =>
      rw [hr] at ih
      obtain ⟨e, hb⟩ := ih
      simp only [Option.bind_some]
      subst e
      by_cases c0 : needsI l[k].Op = 0
      · simp only [stepN, annStep, if_pos c0]
        refine ⟨by simp, fun a ha => ?_⟩
        rcases List.mem_cons.1 ha with rfl | ha
        · rfl
        · exact hb a ha
      · by_cases c1 : needsI l[k].Op = 1
        · simp only [stepN, annStep, if_neg c0, if_pos c1]
          match st, hlen, hb with
          | [], hlen, _ => simp at hlen; omega
          | b :: r, _, hb =>
            refine ⟨by simp, fun a ha => ?_⟩
            rcases List.mem_cons.1 ha with rfl | ha
            · exact hb b (List.mem_cons_self ..)
            · exact hb a (List.mem_cons_of_mem _ ha)
        · simp only [stepN, annStep, if_neg c0, if_neg c1]
          match st, hlen, hb with
          | [], hlen, _ => simp at hlen; omega
          | [b], hlen, _ => simp at hlen; omega
          | b :: c :: r, _, hb =>
            have b1 := hb b (List.mem_cons_self ..)
            have b2 := hb c (List.mem_cons_of_mem _ (List.mem_cons_self ..))
            simp only [List.map_cons, b1, b2, Bool.or_self, Bool.false_eq_true, if_false]
            cases hbn : binN l[k] c.v b.v with
            | none => exact ⟨_, List.mem_cons_self .., rfl⟩
            | some v =>
              simp only [Option.map_some]
              refine ⟨by simp, fun a ha => ?_⟩
              rcases List.mem_cons.1 ha with rfl | ha
              · rfl
              · exact hb a (List.mem_cons_of_mem _ (List.mem_cons_of_mem _ ha))

/-- The whole expression, from the right. -/
theorem annN_eval {slots : List Nat} {inputs : List Int} {l : List It} (h : goodP l slots.length) : ∃ a, annN slots inputs l l.length = [a] ∧ evalN slots inputs l = if a.bad then (0, 1) else (a.v, 0) := by
  obtain ⟨h1, h2, h3⟩ := h
  have hlen := annN_len (slots := slots) (inputs := inputs) h1 l.length (Nat.le_refl _)
  rw [List.take_length, h2] at hlen
  have hrun := annN_run (slots := slots) (inputs := inputs) h1 l.length (Nat.le_refl _)
  rw [List.take_length] at hrun
  match hst : annN slots inputs l l.length, hlen with
  | [a], _ =>
    refine ⟨a, rfl, ?_⟩
    rw [hst] at hrun
    unfold evalN
    rw [if_pos ⟨h1, h2, h3⟩]
    cases hr : runN slots inputs [] l with
    | none =>
      rw [hr] at hrun
      obtain ⟨b, hb, hbad⟩ := hrun
      simp only [List.mem_singleton] at hb
      subst hb
      rw [hbad]; rfl
    | some st =>
      rw [hr] at hrun
      obtain ⟨e, hb⟩ := hrun
      have := hb a (by simp)
      subst e
      rw [this]; rfl
  | [], hlen => simp at hlen
  | a :: b :: r, hlen => simp at hlen; omega

/-! ### Good, from the right -/
/-- How many values are wanted, from the right. -/
def wantR (s : Int) : List It → Int → Option Int
  | [], w => some w
  | x :: l, w => if takesI x s < 0 ∨ w = 0 then none else wantR s l (w - 1 + takesI x s)
theorem high_reverse (l : List It) : high l.reverse = high l := by
  induction l with
  | nil => rfl
  | cons x l ih => rw [List.reverse_cons, high_snoc, ih]; simp only [high]; omega

theorem okL_snoc {s : Int} {l : List It} {x : It} : okL s (l ++ [x]) ↔ okL s l ∧ fitsB x s = true ∧ needsI x.Op ≤ high l := by
  constructor
  · intro h
    refine ⟨fun k hk y hy => ?_, ?_⟩
    · have := h k (by simp; omega) y (by rw [List.getElem?_append_left hk]; exact hy)
      rwa [List.take_append_of_le_length (by omega)] at this
    · have := h l.length (by simp) x (by simp)
      rwa [List.take_left'] at this
      rfl
  · rintro ⟨h, h1, h2⟩ k hk y hy
    by_cases hkl : k < l.length
    · rw [List.getElem?_append_left hkl] at hy
      rw [List.take_append_of_le_length (by omega)]
      exact h k hkl y hy
    · have hke : k = l.length := by simp at hk; omega
      subst hke
      simp at hy
      subst hy
      rw [List.take_left' rfl]
      exact ⟨h1, h2⟩
/-- What is asked from the right is what is asked from the left. -/
theorem want_good (s : Int) : ∀ (n : Nat) (l : List It), l.length = n → ∀ (w : Int), 0 ≤ w → (wantR s l.reverse w = some 0 ↔ okL s l ∧ high l = w) := by
  intro n
  induction n with
  | zero =>
    intro l hl w hw
    have : l = [] := List.length_eq_zero_iff.1 hl
    subst this
    simp [wantR, high, okL]
    omega
  | succ n ih =>
    intro l hl w hw
    rcases List.eq_nil_or_concat l with rfl | ⟨m, x, rfl⟩
    · simp at hl
    · rw [List.concat_eq_append] at *
      simp at hl
      rw [List.reverse_append, List.reverse_singleton, List.singleton_append]
      simp only [wantR]
      rw [okL_snoc, high_snoc]
      by_cases hf : fitsB x s = true
      · have ht : takesI x s = needsI x.Op := by unfold takesI; rw [if_pos hf]
        obtain ⟨h1, h2⟩ := fits_needs hf
        rw [ht]
        by_cases hw0 : w = 0
        · rw [if_pos (Or.inr hw0)]
          constructor
          · intro h; cases h
          · rintro ⟨⟨h3, h4, h5⟩, h6⟩; omega
        · rw [if_neg (by omega), ih m hl _ (by omega)]
          constructor
          · rintro ⟨h3, h4⟩; exact ⟨⟨h3, hf, by omega⟩, by omega⟩
          · rintro ⟨⟨h3, h4, h5⟩, h6⟩; exact ⟨h3, by omega⟩
      · have ht : takesI x s = -1 := by unfold takesI; rw [if_neg hf]
        rw [ht, if_pos (Or.inl (by omega))]
        constructor
        · intro h; cases h
        · rintro ⟨⟨h3, h4, h5⟩, h6⟩; exact absurd h4 hf

end Go.Proofs.Ytkmehngemidiiaa
