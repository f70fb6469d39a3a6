/- PenCuts: a number's bytes, cut, are no number, and the eye is bad for good. -/
import Derived.Test.YtpoeoekoafpdhaaPenB
set_option linter.unusedVariables false
set_option linter.unusedSimpArgs false
namespace Go.Proofs.Ytpoeoekoafpdhaa
open Go.Abs

theorem eyeNat_cut {n k : Nat} (hn : n < 18446744073709551616) (hk : k < (natBytes n).length) : eyeNat 18446744073709551615 ((natBytes n).take k) = none := by
  cases he : eyeNat 18446744073709551615 ((natBytes n).take k) with
  | none => rfl
  | some x =>
    obtain ⟨m, r'⟩ := x
    obtain ⟨e1, e2⟩ := eyeNat_some he
    have h1 := eyeNat_back (most := 18446744073709551615) (m := n) (r' := []) (by omega) hn
    have h2 := eyeNat_back (most := 18446744073709551615) (m := m) (r' := r' ++ (natBytes n).drop k) (by omega) (by omega)
    rw [← List.append_assoc, ← e1, List.take_append_drop] at h2
    rw [List.append_nil, h2] at h1
    simp at h1
    omega

theorem eye_Text_bad {i : Nat} {r : List UInt8} {h : AHeap} {n : Int} (p : EyeAt h i r true) : CallsA Try.prog 28 [.ptr i 0, .int .i64 n] h (fun v h2 => v = .str [] ∧ h2 = h) := by
  apply pen_Eye_Text_wp
  have e : maxA [.int .i64 n, .int .i64 0] = some (.int .i64 (if 0 > n then 0 else n)) := by simp [maxA]
  rw [e, obind_some]
  simp only [pConv_int]
  have hpl1 : ∀ K, pLoad none (.ptr i 1) h K = K (.bool true) := fun K => by rw [pLoad_ptr p.2]; simp
  refine (eye_Nat_bad p).mono ?_
  rintro _ _ ⟨rfl, rfl⟩
  simp [hpl1]

theorem PenCuts_does (n : Nat) (cut : Int) (hn : n < 18446744073709551616) (h : AHeap) : CallsA Try.prog 9 [.int .u64 n, .int .i64 cut] h (fun v _ => v = .bool true) := by
  apply padlocklaw02_PenCuts_wp
  refine (alive_does h).mono ?_
  rintro _ h1 ⟨rfl, k1⟩
  simp
  have hlen : ∀ m, m < 18446744073709551616 → (natBytes m).length ≤ 1000000000 := by
    intro m hm
    have : ∀ k m, m < 128 ^ (k + 1) → (natBytes m).length ≤ k + 1 := by
      intro k
      induction k with
      | zero => intro m hm; rw [natBytes_lt (by omega)]; simp
      | succ k ih =>
        intro m hm
        by_cases h128 : m < 128
        · rw [natBytes_lt h128]; simp
        · rw [natBytes_ge h128]
          have := ih (m / 128) (by rw [Nat.div_lt_iff_lt_mul (by omega)]; rw [Nat.pow_succ] at hm; omega)
          simp; omega
    have := this 9 m (by omega)
    omega
  refine (pen_Nat_does hn (pen_new h1) (by simp [hlen n hn])).mono ?_
  rintro _ h2 ⟨rfl, g, p2, k2, hg⟩
  refine (pen_Bytes_does p2).mono ?_
  rintro _ _ ⟨rfl, rfl⟩
  simp
  by_cases hc : cut < 0
  · simp [hc]
  · by_cases hc2 : ((natBytes n).length : Int) ≤ cut
    · simp [hc, hc2]
    · obtain ⟨k, rfl⟩ : ∃ k : Nat, cut = k := ⟨cut.toNat, by omega⟩
      have hk : k < (natBytes n).length := by omega
      have hk' : ¬ (natBytes n).length ≤ k := by omega
      simp [hk', pSliceStr, bnd]
      refine ⟨by omega, ?_⟩
      refine (pen_Of_does _ _).mono ?_
      rintro _ h3 ⟨rfl, p3, k3⟩
      have c1 := eye_Nat_does (most := 18446744073709551615) p3 (by omega)
      have ea : eyeAfter 18446744073709551615 ((natBytes n).take k) = (0, [], true) := by unfold eyeAfter; rw [eyeNat_cut hn hk]
      rw [ea] at c1
      refine c1.mono ?_
      rintro _ h4 ⟨rfl, p4, k4⟩
      simp
      refine (eye_Bad_does p4).mono ?_
      rintro _ _ ⟨rfl, rfl⟩
      simp
      refine (eye_Nat_bad p4).mono ?_
      rintro _ _ ⟨rfl, rfl⟩
      simp
      refine (eye_Text_bad p4).mono ?_
      rintro _ _ ⟨rfl, rfl⟩
      simp
      refine (eye_Done_does p4).mono ?_
      rintro _ _ ⟨rfl, rfl⟩
      simp

end Go.Proofs.Ytpoeoekoafpdhaa
