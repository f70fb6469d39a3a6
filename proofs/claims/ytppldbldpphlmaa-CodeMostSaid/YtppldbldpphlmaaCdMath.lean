/- calc: expressions in plain words: what items take, whether they are an expression, what it comes to. -/
import Derived.Test.YtppldbldpphlmaaTypes
import Derived.Test.YtppldbldpphlmaaAbsPack
set_option linter.unusedVariables false
set_option linter.unusedSimpArgs false
set_option maxRecDepth 8000
namespace Go.Proofs.Ytppldbldpphlmaa
open Go.Abs

abbrev It := Api_Item
/-- How many values an op takes. -/
def needsI (op : Int) : Int := if 1 ≤ op ∧ op ≤ 3 then 0 else if 4 ≤ op ∧ op ≤ 7 then 1 else if 8 ≤ op ∧ op ≤ 10 then 2 else -1
/-- Whether an item can be, with so many slots. -/
def fitsB (x : It) (s : Int) : Bool :=
  if x.Op = 1 then decide (x.Bin = 0)
  else if x.Op = 2 then decide (x.Bin = 0) && decide ((x.N : Int) < max s 0)
  else if x.Op = 3 then decide (x.Bin = 0) && decide (x.N < 16)
  else if 4 ≤ x.Op ∧ x.Op ≤ 7 then decide (x.Bin = 0) && decide (x.N = 0)
  else if x.Op = 8 then decide (x.N = 0) && decide (0 ≤ x.Bin ∧ x.Bin ≤ 8)
  else if x.Op = 9 then decide (x.N = 0) && decide (0 ≤ x.Bin ∧ x.Bin ≤ 8 ∧ x.Bin ≠ 4)
  else if x.Op = 10 then decide (x.N = 0) && decide (x.Bin = 5 ∨ x.Bin = 6)
  else false
theorem fits_needs {x : It} {s : Int} (h : fitsB x s = true) : 0 ≤ needsI x.Op ∧ needsI x.Op ≤ 2 := by
  unfold fitsB at h
  unfold needsI
  by_cases h1 : 1 ≤ x.Op ∧ x.Op ≤ 3
  · rw [if_pos h1]; omega
  · rw [if_neg h1]
    by_cases h2 : 4 ≤ x.Op ∧ x.Op ≤ 7
    · rw [if_pos h2]; omega
    · rw [if_neg h2]
      by_cases h3 : 8 ≤ x.Op ∧ x.Op ≤ 10
      · rw [if_pos h3]; omega
      · rw [if_neg (by omega), if_neg (by omega), if_neg (by omega), if_neg h2, if_neg (by omega), if_neg (by omega), if_neg (by omega)] at h
        cases h
def takesI (x : It) (s : Int) : Int := if fitsB x s then needsI x.Op else -1

/-- How high the stack is behind items. -/
def high : List It → Int
  | [] => 0
  | x :: l => 1 - needsI x.Op + high l
theorem high_append (l m : List It) : high (l ++ m) = high l + high m := by
  induction l with
  | nil => simp [high]
  | cons x l ih => simp only [List.cons_append, high, ih]; omega
theorem high_snoc (l : List It) (x : It) : high (l ++ [x]) = high l + (1 - needsI x.Op) := by rw [high_append]; simp [high]

/-- From the left: each item can be, and finds what it takes. -/
def okL (s : Int) (l : List It) : Prop := ∀ k, k < l.length → ∀ x, l[k]? = some x → fitsB x s = true ∧ needsI x.Op ≤ high (l.take k)
/-- Items are an expression. -/
def goodP (l : List It) (s : Int) : Prop := okL s l ∧ high l = 1 ∧ l.length ≤ 64
theorem high_take_succ {l : List It} {k : Nat} {x : It} (hx : l[k]? = some x) : high (l.take (k + 1)) = high (l.take k) + (1 - needsI x.Op) := by
  rw [List.take_add_one, hx]; exact high_snoc _ _
theorem okL_high {s : Int} {l : List It} (h : okL s l) : ∀ k, k ≤ l.length → 0 ≤ high (l.take k) ∧ (0 < k → 1 ≤ high (l.take k)) := by
  intro k
  induction k with
  | zero => intro _; simp [high]
  | succ k ih =>
    intro hk
    have hx : l[k]? = some l[k] := List.getElem?_eq_getElem (by omega)
    obtain ⟨h1, h2⟩ := h k (by omega) _ hx
    rw [high_take_succ hx]
    omega

def wantR (s : Int) : List It → Int → Option Int
  | [], w => some w
  | x :: l, w => if takesI x s < 0 ∨ w = 0 then none else wantR s l (w - 1 + takesI x s)
theorem high_reverse (l : List It) : high l.reverse = high l := by
  induction l with
  | nil => rfl
  | cons x l ih => rw [List.reverse_cons, high_snoc, ih]; simp only [high]; omega

theorem okL_snoc {s : Int} {l : List It} {x : It} : okL s (l ++ [x]) ↔ okL s l ∧ fitsB x s = true ∧ needsI x.Op ≤ high l := by
  constructor
  · intro h
    refine ⟨fun k hk y hy => ?_, ?_⟩
    · have := h k (by simp; omega) y (by rw [List.getElem?_append_left hk]; exact hy)
      rwa [List.take_append_of_le_length (by omega)] at this
    · have := h l.length (by simp) x (by simp)
      rwa [List.take_left'] at this
      rfl
  · rintro ⟨h, h1, h2⟩ k hk y hy
    by_cases hkl : k < l.length
    · rw [List.getElem?_append_left hkl] at hy
      rw [List.take_append_of_le_length (by omega)]
      exact h k hkl y hy
    · have hke : k = l.length := by simp at hk; omega
      subst hke
      simp at hy
      subst hy
      rw [List.take_left' rfl]
      exact ⟨h1, h2⟩
/-- What is asked from the right is what is asked from the left. -/
theorem want_good (s : Int) : ∀ (n : Nat) (l : List It), l.length = n → ∀ (w : Int), 0 ≤ w → (wantR s l.reverse w = some 0 ↔ okL s l ∧ high l = w) := by
  intro n
  induction n with
  | zero =>
    intro l hl w hw
    have : l = [] := List.length_eq_zero_iff.1 hl
    subst this
    simp [wantR, high, okL]
    omega
  | succ n ih =>
    intro l hl w hw
    rcases List.eq_nil_or_concat l with rfl | ⟨m, x, rfl⟩
    · simp at hl
    · rw [List.concat_eq_append] at *
      simp at hl
      rw [List.reverse_append, List.reverse_singleton, List.singleton_append]
      simp only [wantR]
      rw [okL_snoc, high_snoc]
      by_cases hf : fitsB x s = true
      · have ht : takesI x s = needsI x.Op := by unfold takesI; rw [if_pos hf]
        obtain ⟨h1, h2⟩ := fits_needs hf
        rw [ht]
        by_cases hw0 : w = 0
        · rw [if_pos (Or.inr hw0)]
          constructor
          · intro h; cases h
          · rintro ⟨⟨h3, h4, h5⟩, h6⟩; omega
        · rw [if_neg (by omega), ih m hl _ (by omega)]
          constructor
          · rintro ⟨h3, h4⟩; exact ⟨⟨h3, hf, by omega⟩, by omega⟩
          · rintro ⟨⟨h3, h4, h5⟩, h6⟩; exact ⟨h3, by omega⟩
      · have ht : takesI x s = -1 := by unfold takesI; rw [if_neg hf]
        rw [ht, if_pos (Or.inl (by omega))]
        constructor
        · intro h; cases h
        · rintro ⟨⟨h3, h4, h5⟩, h6⟩; exact absurd h4 hf

end Go.Proofs.Ytppldbldpphlmaa
