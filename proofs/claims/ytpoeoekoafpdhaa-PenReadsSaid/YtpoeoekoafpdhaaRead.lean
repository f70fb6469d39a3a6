/- The document's reading of a number: the same as the eye's. -/
import Derived.Test.YtpoeoekoafpdhaaBackDoes
set_option linter.unusedVariables false
set_option linter.unusedSimpArgs false
set_option maxRecDepth 8000
namespace Go.Proofs.Ytpoeoekoafpdhaa
open Go.Abs

def valB : List UInt8 → Nat
  | [] => 0
  | c :: l => c.toNat % 128 + 128 * valB l

theorem valB_natBytes : ∀ n, valB (natBytes n) = n := by
  intro n
  induction n using Nat.strongRecOn with
  | _ n ih =>
    by_cases h : n < 128
    · rw [natBytes_lt h]; simp [valB]; omega
    · rw [natBytes_ge h]
      simp only [valB]
      rw [ih (n / 128) (by omega)]
      have : (UInt8.ofNat (n % 128 + 128)).toNat = n % 128 + 128 := by simp; omega
      omega

theorem natBytes_ends : ∀ n (j : Nat) (b : UInt8), (natBytes n)[j]? = some b → (j + 1 = (natBytes n).length ↔ b.toNat < 128) := by
  intro n
  induction n using Nat.strongRecOn with
  | _ n ih =>
    intro j b hj
    by_cases h : n < 128
    · rw [natBytes_lt h] at hj ⊢
      cases j with
      | zero =>
        simp at hj
        subst hj
        simp
        omega
      | succ j => simp at hj
    · rw [natBytes_ge h] at hj ⊢
      have e : (UInt8.ofNat (n % 128 + 128)).toNat = n % 128 + 128 := by simp; omega
      cases j with
      | zero =>
        have hb : UInt8.ofNat (n % 128 + 128) = b := by simpa using hj
        subst hb
        rw [e]
        have : 0 < (natBytes (n / 128)).length := by
          by_cases h2 : n / 128 < 128
          · rw [natBytes_lt h2]; simp
          · rw [natBytes_ge h2]; simp
        simp only [List.length_cons]
        omega
      | succ j =>
        have := ih (n / 128) (by omega) j b (by simpa using hj)
        simp only [List.length_cons]
        omega

theorem natBytes_pos (n : Nat) : 0 < (natBytes n).length := by
  by_cases h2 : n < 128
  · rw [natBytes_lt h2]; simp
  · rw [natBytes_ge h2]; simp

def refRead (s : List UInt8) : Nat × Nat := match eyeNat 18446744073709551615 s with | some (n, r') => (n, s.length - r'.length) | none => (0, 0)

/-- So many bytes are looked through, and none ends a number. -/
def NoEnd (s : List UInt8) (k : Nat) : Prop := ∀ (j : Nat) (b : UInt8), j < k → s[j]? = some b → 128 ≤ b.toNat

theorem refRead_none {s : List UInt8} {k : Nat} (h : NoEnd s k) (hk : 10 ≤ k ∨ s.length ≤ k) : refRead s = (0, 0) := by
  unfold refRead
  cases he : eyeNat 18446744073709551615 s with
  | none => rfl
  | some x =>
    exfalso
    obtain ⟨m, r'⟩ := x
    obtain ⟨e1, e2⟩ := eyeNat_some he
    have h1 := natBytes_pos m
    have h2 := natBytes_len m (by omega)
    have hl : (natBytes m).length ≤ s.length := by rw [e1]; simp
    have hj : (natBytes m)[(natBytes m).length - 1]? = some ((natBytes m)[(natBytes m).length - 1]'(by omega)) := List.getElem?_eq_getElem (by omega)
    have h3 := (natBytes_ends m _ _ hj).1 (by omega)
    have h4 := h ((natBytes m).length - 1) ((natBytes m)[(natBytes m).length - 1]'(by omega)) (by omega) (by rw [e1, List.getElem?_append_left (by omega)]; exact hj)
    omega

theorem refRead_found {s : List UInt8} {k : Nat} {c : UInt8} (h : NoEnd s k) (hc : s[k]? = some c) (hc2 : c.toNat < 128) (hk : k < 10) :
    refRead s = if natBytes (valB (s.take (k + 1)) % 18446744073709551616) = s.take (k + 1) then (valB (s.take (k + 1)) % 18446744073709551616, k + 1) else (0, 0) := by
  have hks : k < s.length := (List.getElem?_eq_some_iff.1 hc).1
  split
  · rename_i he
    unfold refRead
    have := eyeNat_back (most := 18446744073709551615) (m := valB (s.take (k + 1)) % 18446744073709551616) (r' := s.drop (k + 1)) (by omega) (by omega)
    rw [he, List.take_append_drop] at this
    rw [this]
    simp; omega
  · rename_i hne
    unfold refRead
    cases he : eyeNat 18446744073709551615 s with
    | none => rfl
    | some x =>
      exfalso
      obtain ⟨m, r'⟩ := x
      obtain ⟨e1, e2⟩ := eyeNat_some he
      have h1 := natBytes_pos m
      have hj : (natBytes m)[(natBytes m).length - 1]? = some ((natBytes m)[(natBytes m).length - 1]'(by omega)) := List.getElem?_eq_getElem (by omega)
      have h3 := (natBytes_ends m _ _ hj).1 (by omega)
      have hlen : (natBytes m).length = k + 1 := by
        rcases Nat.lt_trichotomy (natBytes m).length (k + 1) with hlt | heq | hgt
        · have h4 := h ((natBytes m).length - 1) ((natBytes m)[(natBytes m).length - 1]'(by omega)) (by omega) (by rw [e1, List.getElem?_append_left (by omega)]; exact hj)
          omega
        · exact heq
        · have hk2 : (natBytes m)[k]? = some c := by rw [e1, List.getElem?_append_left (by omega)] at hc; exact hc
          have := (natBytes_ends m k c hk2).2 hc2
          omega
      have ht : s.take (k + 1) = natBytes m := by rw [e1, ← hlen]; simp
      apply hne
      rw [ht, valB_natBytes, Nat.mod_eq_of_lt (by omega)]

theorem read_inner {s : List UInt8} {k : Nat} {h : AHeap} {Q : AExit → Fr → AHeap → Prop} (hk : k < s.length) (hk10 : k < 10)
    (hQ : Q (.exit 2) (frOf [(0, .str s), (4, .int .i64 (k + 1 : Nat)), (5, .int .u64 (valB (s.take (k + 1)) % 18446744073709551616 : Nat))]) h) :
    WP Try.prog 44 (Code.loop c_padlockref02_Read_7) (frOf [(0, .str s), (4, .int .i64 (k + 1 : Nat)), (5, .int .u64 0), (6, .int .i64 k)]) h Q := by
  refine WP_loop mixed_ (by kernel_rfl) (fun m fr hh => hh = h ∧ m ≤ k + 1 ∧ fr = frOf [(0, .str s), (4, .int .i64 (k + 1 : Nat)), (5, .int .u64 (valB ((s.take (k + 1)).drop m) % 18446744073709551616 : Nat)), (6, .int .i64 ((m : Int) - 1))]) (k + 1) ⟨rfl, Nat.le_refl _, ?_⟩ ?_
  · have e1 : (s.take (k + 1)).drop (k + 1) = [] := by simp
    rw [e1]
    simp only [valB]
    have : ((k + 1 : Nat) : Int) - 1 = k := by omega
    rw [this]
    rfl
  · rintro m fr hh ⟨rfl, hm, rfl⟩
    apply padlockref02_Read_loop7
    generalize hI : (fun (m : Nat) (fr : Fr) (hh' : AHeap) => hh' = hh ∧ m ≤ k + 1 ∧ fr = frOf [(0, .str s), (4, .int .i64 (k + 1 : Nat)), (5, .int .u64 (valB ((s.take (k + 1)).drop m) % 18446744073709551616 : Nat)), (6, .int .i64 ((m : Int) - 1))]) = I
    simp only [binA_int_geq, obind_some, pCond_bool, decide_eq_true_eq]
    split
    · rename_i h0
      obtain ⟨j, rfl⟩ : ∃ j, m = j + 1 := ⟨m - 1, by omega⟩
      have ej : (((j + 1 : Nat) : Int) - 1) = (j : Int) := by omega
      have hjs : j < s.length := by omega
      have hidx : ∀ K, pIndexStr (.str s) (.int .i64 (j : Int)) K = K (.int .u8 (s[j].toNat)) := fun K => by simp [pIndexStr, hjs]
      have hd : (s.take (k + 1)).drop j = s[j] :: (s.take (k + 1)).drop (j + 1) := by
        rw [List.drop_eq_getElem_cons (by simp; omega)]
        simp
      rw [ej]
      generalize hv : valB ((s.take (k + 1)).drop (j + 1)) = v
      have hvj : valB ((s.take (k + 1)).drop j) = s[j].toNat % 128 + 128 * v := by rw [hd]; simp only [valB, hv]
      generalize hcj : s[j].toNat = cj at *
      have hcj2 : cj < 256 := by rw [← hcj]; exact UInt8.toNat_lt _
      have e1 : IntKind.u64.wrap (cj : Int) = (cj : Int) := by rw [wr_u64]; omega
      have e2 : (cj : Int).tmod 128 = ((cj % 128 : Nat) : Int) := rfl
      have e3 : IntKind.u64.wrap (IntKind.u64.wrap (128 * ((v % 18446744073709551616 : Nat) : Int)) + ((cj % 128 : Nat) : Int)) = (((cj % 128 + 128 * v) % 18446744073709551616 : Nat) : Int) := by rw [wr_u64, wr_u64]; omega
      have e4 : IntKind.i64.wrap ((j : Int) - 1) = (j : Int) - 1 := wrap_i64 (by omega)
      simp only [binA_int_mul, obind_some, hidx, pConv_int, e1, binA_int_rem, if_neg (show ¬ (128 : Int) = 0 by omega), e2, binA_int_add, e3, binA_int_sub, e4]
      rw [loopPost_normal, ← hI]
      exact ⟨j, by omega, rfl, by omega, by rw [hvj]⟩
    · have : m = 0 := by omega
      subst this
      exact hQ

theorem ref_Read_does (s : List UInt8) (h : AHeap) : CallsA Try.prog 40 [.str s] h (fun v h2 => v = .tup [.int .u64 (refRead s).1, .int .i64 (refRead s).2] ∧ h2 = h) := by
  apply padlockref02_Read_wp
  refine WP_loop mixed_ (by kernel_rfl) (fun m fr hh => hh = h ∧ ∃ k : Nat, m + k = 10 ∧ fr = frOf [(0, .str s), (4, .int .i64 (k + 1 : Nat))] ∧ NoEnd s k) 10 ⟨rfl, 0, rfl, rfl, fun j b hj _ => by omega⟩ ?_
  rintro m fr hh ⟨rfl, k, hm, rfl, hno⟩
  apply padlockref02_Read_loop2
  generalize hI : (fun (m : Nat) (fr : Fr) (hh' : AHeap) => hh' = hh ∧ ∃ k : Nat, m + k = 10 ∧ fr = frOf [(0, .str s), (4, .int .i64 (k + 1 : Nat))] ∧ NoEnd s k) = I
  simp only [binA_int_leq, obind_some, pJoin_eq, pGuard_bool, pLen_str, nth_zero, nth_cons]
  by_cases h10 : k < 10
  · have d1 : decide (((k + 1 : Nat) : Int) ≤ 10) = true := by simp; omega
    simp only [d1, if_true, pPick_true]
    by_cases hs : k < s.length
    · have d2 : decide (((k + 1 : Nat) : Int) ≤ (s.length : Int)) = true := by simp; omega
      have e1 : IntKind.i64.wrap (((k + 1 : Nat) : Int) - 1) = (k : Int) := by rw [wrap_i64 (by omega)]; omega
      have hidx : ∀ K, pIndexStr (.str s) (.int .i64 (k : Int)) K = K (.int .u8 (s[k].toNat)) := fun K => by simp [pIndexStr, hs]
      have hsk : s[k]? = some s[k] := List.getElem?_eq_getElem hs
      generalize s[k] = c at hsk hidx
      simp only [nth_zero, nth_cons, d2, pCond_bool, if_true, binA_int_sub, obind_some, e1, hidx, binA_int_lss, decide_eq_true_eq]
      by_cases hc : c.toNat < 128
      · rw [if_pos (by omega : (c.toNat : Int) < 128)]
        refine read_inner hs h10 ?_
        have hf := refRead_found hno hsk hc h10
        simp only [exitQ_exit, pIdx_eq, if_true, frOf_cons]
        simp only [Nat.reduceEqDiff, if_false, if_true, true_and, pSliceStr, bnd, Int.toNat_natCast]
        refine ⟨by omega, by omega, by omega, ?_⟩
        refine (ref_Nat_does _ hh (by omega)).mono ?_
        rintro _ _ ⟨rfl, rfl⟩
        simp only [true_and, binA_str_eql, obind_some, pCond_bool, beq_iff_eq]
        rw [hf]
        simp only [Int.toNat_zero, List.drop_zero]
        split
        · simp
        · simp
      · rw [if_neg (by omega : ¬ (c.toNat : Int) < 128)]
        have e2 : IntKind.i64.wrap (((k + 1 : Nat) : Int) + 1) = ((k + 1 + 1 : Nat) : Int) := by rw [wrap_i64 (by omega)]; omega
        simp only [binA_int_add, obind_some, e2]
        rw [loopPost_normal, ← hI]
        refine ⟨m - 1, by omega, rfl, k + 1, by omega, rfl, fun j b hj hb => ?_⟩
        by_cases hjk : j = k
        · subst hjk
          rw [hsk] at hb
          cases hb
          omega
        · exact hno j b (by omega) hb
    · have d2 : decide (((k + 1 : Nat) : Int) ≤ (s.length : Int)) = false := by simp; omega
      have hf := refRead_none hno (Or.inr (by omega))
      simp only [nth_zero, nth_cons, d2, pCond_bool, Bool.false_eq_true, if_false]
      simp [hf]
  · have d1 : decide (((k + 1 : Nat) : Int) ≤ 10) = false := by simp; omega
    have hf := refRead_none hno (Or.inl (by omega))
    simp only [d1, Bool.false_eq_true, if_false, pPick_false, pCond_bool]
    simp [hf]

end Go.Proofs.Ytpoeoekoafpdhaa
