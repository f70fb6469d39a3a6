/- heap: finding a thing, its cells; the sample at work. -/
import Derived.Test.YtppldbldpphlmaaHeap
set_option linter.unusedVariables false
set_option linter.unusedSimpArgs false
set_option maxRecDepth 8000
namespace Go.Proofs.Ytppldbldpphlmaa
open Go.Abs

def findR (ts : Nat → List Tng) (r : Nat) : Option Tng := if r = 0 ∨ 64 < r then none else (ts ((r - 1) / 16))[(r - 1) % 16]?
def tngAV : Option Tng → AV | none => .nilp | some t => .iptr t.cells

theorem HpAt.ld {h : AHeap} {F : Nat → Prop} {i : Nat} {ts : Nat → List Tng} {tk : Nat → Nat} {G : AV} (p : HpAt h F i ts tk G) {k : Nat} (hk : k < 4) (K : AV → Prop) : pLoad none (.ptr i (1 + k)) h K = K (madeAV (ts k) (tk k)) := by
  rw [pLoad_ptr p.row]
  have := rowOf_get G ts tk hk
  unfold rowOf at this
  simp only [pCells_none]
  rw [this]

theorem heap_find_does {h : AHeap} {F : Nat → Prop} {i : Nat} {ts : Nat → List Tng} {tk : Nat → Nat} {G : AV} (p : HpAt h F i ts tk G) (r : Nat) (hr : r < 18446744073709551616) :
    CallsA Try.prog 41 [.ptr i 0, .int .u64 r] h (fun v h2 => v = tngAV (findR ts r) ∧ h2 = h) := by
  apply heap_Heap_find_wp
  try simp only [Go.Abs.later]
  have hz : ((r : Int) == 0) = decide (r = 0) := by rw [Bool.eq_iff_iff]; simp
  have hg : decide ((64 : Int) < (r : Int)) = decide (64 < r) := by rw [Bool.eq_iff_iff]; simp; omega
  by_cases h0 : r = 0
  · simp [hz, h0, findR, tngAV]
  · by_cases h64 : 64 < r
    · simp [hz, hg, h0, h64, findR, tngAV]
    · have e1 : IntKind.u64.wrap ((r : Int) - 1) = ((r - 1 : Nat) : Int) := by rw [wr_u64]; omega
      have e2 : IntKind.i64.wrap ((r - 1 : Nat) : Int) = ((r - 1 : Nat) : Int) := wrap_i64 (by omega)
      have e3 : ((r - 1 : Nat) : Int).tdiv 16 = (((r - 1) / 16 : Nat) : Int) := rfl
      have e4 : ((r - 1 : Nat) : Int).tmod 16 = (((r - 1) % 16 : Nat) : Int) := rfl
      have e5 : IntKind.i64.wrap (((r - 1) / 16 : Nat) : Int) = (((r - 1) / 16 : Nat) : Int) := wrap_i64 (by omega)
      have hk : (r - 1) / 16 < 4 := by omega
      have hf : findR ts r = (ts ((r - 1) / 16))[(r - 1) % 16]? := by simp [findR, h0, h64]
      rw [hf]
      have hz' : ((r : Int) == 0) = false := by rw [hz]; simp [h0]
      have hg' : decide ((64 : Int) < (r : Int)) = false := by rw [hg]; simp [h64]
      generalize (r - 1) / 16 = k at *
      generalize (r - 1) % 16 = q at *
      have hix : ∀ K, pIndexAddr (.array 4 1) (.ptr i 1) (.int .i64 (k : Int)) K = K (.ptr i (1 + k)) := fun K => by simp [pIndexAddr]; omega
      have hl : decide ((q : Int) < ((ts k).length : Int)) = decide (q < (ts k).length) := by rw [Bool.eq_iff_iff]; simp
      simp only [binA_ptr_eql_nil, obind_some, pJoin_eq, pGuard_bool, if_true, binA_int_eql, hz', nth_zero, nth_cons, pPick_false, binA_int_gtr, hg', pCond_bool, Bool.false_eq_true, if_false, binA_int_sub, e1, pConv_int, e2, binA_int_quo, binA_int_rem, if_neg (show ¬ (16 : Int) = 0 by omega), e3, e4, e5, pNil_ptr, pFieldAddr_ptr, Nat.zero_add, hix, p.ld hk, madeAV_len, binA_int_lss, hl, decide_eq_true_eq]
      by_cases hql : q < (ts k).length
      · rw [if_pos hql]
        have hne : ts k ≠ [] := fun e => by rw [e] at hql; simp at hql
        have em : madeAV (ts k) (tk k) = .gsl (tk k) 3 ((ts k).map Tng.cells) := by
          unfold madeAV
          cases hts : ts k with
          | nil => exact absurd hts hne
          | cons a l => rfl
        rw [em]
        simp [pIndexAddr, hql, tngAV]
      · rw [if_neg hql]
        have : (ts k)[q]? = none := List.getElem?_eq_none (by omega)
        simp [this, tngAV]


/-- What asking for a cell answers. -/
def cellR (ts : Nat → List Tng) (r : Nat) (at_ : Int) : Int ⊕ (Tng × Nat) :=
  match findR ts r with
  | none => .inl 2
  | some t => if at_ < 0 ∨ (t.vals.length : Int) ≤ at_ then .inl 3 else .inr (t, at_.toNat)
def cellAV : Int ⊕ (Tng × Nat) → AV
  | .inl e => .tup [.nilp, .int .i64 e]
  | .inr (t, q) => .tup [.ptr t.id q, .int .i64 0]

theorem heap_cell_does {h : AHeap} {F : Nat → Prop} {i : Nat} {ts : Nat → List Tng} {tk : Nat → Nat} {G : AV} (p : HpAt h F i ts tk G) (r : Nat) (hr : r < 18446744073709551616) (at_ : Int) :
    CallsA Try.prog 43 [.ptr i 0, .int .u64 r, .int .i64 at_] h (fun v h2 => v = cellAV (cellR ts r at_) ∧ h2 = h) := by
  apply heap_Heap_cell_wp
  try simp only [Go.Abs.later]
  refine (heap_find_does p r hr).mono ?_
  rintro _ h2 ⟨rfl, e⟩
  subst e
  unfold cellR
  cases hf : findR ts r with
  | none => simp [tngAV, cellAV]
  | some t =>
    by_cases h0 : at_ < 0
    · simp [tngAV, cellAV, Tng.cells, h0]
    · by_cases h1 : (t.vals.length : Int) ≤ at_
      · simp [tngAV, cellAV, Tng.cells, h0, h1]
      · have h2' : at_ < (t.vals.length : Int) := by omega
        simp [tngAV, cellAV, Tng.cells, h0, h1, h2', pIndexAddr]
        omega

end Go.Proofs.Ytppldbldpphlmaa
