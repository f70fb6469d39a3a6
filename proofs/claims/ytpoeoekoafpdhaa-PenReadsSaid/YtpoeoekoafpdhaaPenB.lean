/- pen: signed numbers, the sample at work, and what the law functions do. -/
import Derived.Test.YtpoeoekoafpdhaaPen
set_option linter.unusedVariables false
set_option linter.unusedSimpArgs false
namespace Go.Proofs.Ytpoeoekoafpdhaa
open Go.Abs

theorem eye_pen_ne {h : AHeap} {e i g : Nat} {r bs : List UInt8} {b : Bool} (p : EyeAt h e r b) (q : PenAt h i g bs) : e ≠ i ∧ e ≠ g := by
  obtain ⟨_, p2⟩ := p
  obtain ⟨_, _, ⟨-, rfl, q3⟩ | ⟨-, -, q3, q4⟩⟩ := q
  · refine ⟨?_, ?_⟩ <;> rintro rfl <;> rw [p2] at q3 <;> cases q3
  · refine ⟨?_, ?_⟩ <;> rintro rfl
    · rw [p2] at q3; cases q3
    · rw [p2] at q4; cases q4

/-- A signed number as one without a sign. -/
def zig (n : Int) : Nat := if 0 ≤ n then (2 * n).toNat else (-2 * n - 1).toNat

theorem xor_ones (a : Nat) (ha : a < 18446744073709551616) : a ^^^ 18446744073709551615 = 18446744073709551615 - a := by
  have e : (BitVec.ofNat 64 a ^^^ BitVec.allOnes 64).toNat = 18446744073709551615 - a := by
    rw [BitVec.xor_allOnes, BitVec.toNat_not, BitVec.toNat_ofNat, Nat.mod_eq_of_lt (by simpa using ha)]
  rw [← e, BitVec.toNat_xor, BitVec.toNat_ofNat, Nat.mod_eq_of_lt (by simpa using ha)]
  rfl

theorem zig_bits (n : Int) (h0 : -9223372036854775808 ≤ n) (h1 : n ≤ 9223372036854775807) : iXor .u64 (iShl .u64 (n % 18446744073709551616) 1) (iShr .i64 n 63 % 18446744073709551616) = (zig n : Int) := by
  rw [show (63 : Int) = ((63 : Nat) : Int) from rfl, iShr_i64 _ _ (by omega)]
  obtain ⟨m, hm⟩ : ∃ m : Nat, n % 18446744073709551616 = (m : Int) := ⟨(n % 18446744073709551616).toNat, by omega⟩
  rw [hm, show (1 : Int) = ((1 : Nat) : Int) from rfl, iShl_u64 _ _ (by omega)]
  unfold zig
  split
  · have e : n / 2 ^ 63 % 18446744073709551616 = ((0 : Nat) : Int) := by omega
    rw [e, iXor_u64 _ _ (by omega) (by omega), Nat.xor_zero]
    omega
  · have e : n / 2 ^ 63 % 18446744073709551616 = ((18446744073709551615 : Nat) : Int) := by omega
    rw [e, iXor_u64 _ _ (by omega) (by omega), xor_ones _ (by omega)]
    omega

theorem zig_lt {n : Int} (h0 : -9223372036854775808 ≤ n) (h1 : n ≤ 9223372036854775807) : zig n < 18446744073709551616 := by unfold zig; split <;> omega

theorem pen_Int_does {i g : Nat} {bs : List UInt8} {h : AHeap} {n : Int} (h0 : -9223372036854775808 ≤ n) (h1 : n ≤ 9223372036854775807) (p : PenAt h i g bs) (hl : bs.length + (natBytes (zig n)).length ≤ 1000000000) :
    CallsA Try.prog 32 [.ptr i 0, .int .i64 n] h (fun v h2 => v = .tup [] ∧ ∃ g2, PenAt h2 i g2 (bs ++ natBytes (zig n)) ∧ Keeps h h2 (fun k => k = i ∨ k = g) ∧ h.next ≤ g2) := by
  apply pen_Pen_Int_wp
  simp [zig_bits n h0 h1]
  refine (pen_Nat_does (zig_lt h0 h1) p hl).mono ?_
  rintro _ h2 ⟨rfl, g2, p2, k2, hg⟩
  exact ⟨g2, p2, k2, hg⟩

/-- The signed number of one without a sign. -/
def zag (n : Nat) : Int := if n % 2 = 0 then (n / 2 : Nat) else -1 - (n / 2 : Nat)

theorem bv_m1 : BitVec.ofInt IntKind.i64.bits (-1) = BitVec.allOnes IntKind.i64.bits := by decide +kernel

theorem iXor_m1 (a : Nat) (ha : a < 9223372036854775808) : iXor .i64 (a : Int) (-1) = -1 - (a : Int) := by
  unfold iXor
  rw [bv_m1, bv_nat, BitVec.xor_allOnes, BitVec.toNat_not, BitVec.toNat_ofNat, IntKind.wrap_i64]
  simp only [IntKind.bits]
  omega
theorem iXor_0 (a : Nat) (ha : a < 9223372036854775808) : iXor .i64 (a : Int) 0 = (a : Int) := by
  unfold iXor
  rw [bv_nat, show BitVec.ofInt IntKind.i64.bits 0 = 0#_ from by simp, BitVec.xor_zero, BitVec.toNat_ofNat, IntKind.wrap_i64]
  simp only [IntKind.bits]
  omega

theorem eye_Int_does {i : Nat} {r : List UInt8} {h : AHeap} (p : EyeAt h i r false) :
    CallsA Try.prog 26 [.ptr i 0] h (fun v h2 => v = .int .i64 (zag (eyeAfter 18446744073709551615 r).1) ∧ EyeAt h2 i (eyeAfter 18446744073709551615 r).2.1 (eyeAfter 18446744073709551615 r).2.2 ∧ Keeps h h2 (fun k => k = i)) := by
  apply pen_Eye_Int_wp
  refine (eye_Nat_does (most := 18446744073709551615) p (by omega)).mono ?_
  rintro _ h2 ⟨rfl, p2, k2⟩
  generalize hn : (eyeAfter 18446744073709551615 r).1 = n at *
  have hn64 : n < 18446744073709551616 := by
    rw [← hn]; unfold eyeAfter
    split
    · rename_i m r' e; have := (eyeNat_some e).2; simp; omega
    · simp
  have e1 : iShr .u64 (n : Int) 1 = ((n / 2 : Nat) : Int) := by
    rw [show (1 : Int) = ((1 : Nat) : Int) from rfl, iShr_u64 _ _ (by omega)]
  have e2 : iAnd .u64 (n : Int) 1 = ((n % 2 : Nat) : Int) := by
    rw [show (1 : Int) = ((1 : Nat) : Int) from rfl, iAnd_u64 _ _ hn64 (by omega), show (1 : Nat) = 2 ^ 1 - 1 from rfl, Nat.and_two_pow_sub_one_eq_mod]
  have e3 : IntKind.i64.wrap ((n / 2 : Nat) : Int) = ((n / 2 : Nat) : Int) := wrap_i64 (by omega)
  have e4 : IntKind.i64.wrap ((n % 2 : Nat) : Int) = ((n % 2 : Nat) : Int) := wrap_i64 (by omega)
  have e5 : IntKind.i64.wrap (0 - ((n % 2 : Nat) : Int)) = -((n % 2 : Nat) : Int) := by rw [wrap_i64 (by omega)]; omega
  simp only [binA_shr, if_neg (show ¬ (1 : Int) < 0 by omega), obind_some, e1, pConv_int, e3, binA_int_and, e2, e4, unA_neg, e5, binA_int_xor]
  refine ⟨?_, p2, k2⟩
  unfold zag
  rcases Nat.mod_two_eq_zero_or_one n with e | e
  · rw [e, if_pos rfl]; simp only [Int.natCast_zero, Int.neg_zero]; rw [iXor_0 _ (by omega)]
  · rw [e, if_neg (by omega)]; simp only [Int.natCast_one]; rw [iXor_m1 _ (by omega)]

theorem eye_Int_bad {i : Nat} {r : List UInt8} {h : AHeap} (p : EyeAt h i r true) : CallsA Try.prog 26 [.ptr i 0] h (fun v h2 => v = .int .i64 0 ∧ h2 = h) := by
  apply pen_Eye_Int_wp
  refine (eye_Nat_bad p).mono ?_
  rintro _ _ ⟨rfl, rfl⟩
  simp [iShr, iAnd, iXor, IntKind.bits, IntKind.wrap_i64, Int.fdiv]

theorem alive_does (h : AHeap) : CallsA Try.prog 12 [] h (fun v h2 => v = .bool true ∧ Keeps h h2 (fun _ => False)) := by
  apply padlocklaw02_alive_wp
  simp
  have n300 : natBytes 300 = [172, 2] := by rw [natBytes_ge (by omega), natBytes_lt (by omega)]; rfl
  have z1 : natBytes (zig (-1)) = [1] := by rw [show zig (-1) = 1 from rfl, natBytes_lt (by omega)]; rfl
  refine (pen_Nat_does (n := 300) (by omega) (pen_new h) (by rw [n300]; simp)).mono ?_
  rintro _ h1 ⟨rfl, g1, p1, k1, hg1⟩
  rw [n300] at p1
  refine (pen_Int_does (n := -1) (by omega) (by omega) p1 (by rw [z1]; simp)).mono ?_
  rintro _ h2 ⟨rfl, g2, p2, k2, hg2⟩
  rw [z1] at p2
  refine (pen_Bytes_does p2).mono ?_
  rintro _ _ ⟨rfl, rfl⟩
  refine (pen_Of_does _ _).mono ?_
  rintro _ h3 ⟨rfl, p3, k3⟩
  have p2' := p2.keeps k3 (by simp) (by simp)
  refine (pen_Bytes_does p2').mono ?_
  rintro _ _ ⟨rfl, rfl⟩
  simp
  have e1 : eyeAfter 300 [172, 2, 1] = (300, [1], false) := by
    have := eyeNat_back (most := 300) (m := 300) (r' := [1]) (by omega) (by omega)
    rw [n300] at this
    unfold eyeAfter
    rw [show ([172, 2, 1] : List UInt8) = [172, 2] ++ [1] from rfl, this]
  have e2 : eyeAfter 18446744073709551615 [1] = (1, [], false) := by
    have := eyeNat_back (most := 18446744073709551615) (m := 1) (r' := []) (by omega) (by omega)
    rw [natBytes_lt (by omega)] at this
    unfold eyeAfter
    rw [show ([1] : List UInt8) = [UInt8.ofNat 1] ++ [] from rfl, this]
  have c1 := eye_Nat_does (most := 300) p3 (by omega)
  simp only [List.nil_append, List.cons_append, e1] at c1
  refine c1.mono ?_
  rintro _ h4 ⟨rfl, p4, k4⟩
  simp
  have c2 := eye_Int_does p4
  simp only [e2] at c2
  refine c2.mono ?_
  rintro _ h5 ⟨rfl, p5, k5⟩
  simp [zag]
  refine (eye_Done_does p5).mono ?_
  rintro _ _ ⟨rfl, rfl⟩
  simp
  have hn1 := k1.next
  have hn2 := k2.next
  have hn3 := k3.next
  simp at hn1 hg1
  have K1 := (Keeps.push h (.row 27 [.nils])).trans k1 (fun j hj hs => by rcases hs with rfl | rfl <;> omega)
  have K2 := K1.trans k2 (fun j hj hs => by rcases hs with rfl | rfl <;> omega)
  have K3 := K2.trans k3 (fun j hj hs => hs)
  have K4 := K3.trans k4 (fun j hj hs => by omega)
  exact K4.trans k5 (fun j hj hs => by omega)

/-- A reading that went well. -/
theorem eyeAfter_cases (most : Nat) (r : List UInt8) : (∃ m r', eyeAfter most r = (m, r', false) ∧ r = natBytes m ++ r' ∧ m ≤ most) ∨ eyeAfter most r = (0, [], true) := by
  unfold eyeAfter
  cases he : eyeNat most r with
  | none => exact Or.inr rfl
  | some x => exact Or.inl ⟨x.1, x.2, rfl, (eyeNat_some he).1, (eyeNat_some he).2⟩

theorem penOnce_loop {s : List UInt8} {ie ip : Nat} {h : AHeap} {Q : AExit → Fr → AHeap → Prop} (hs : s.length ≤ 1000) (pe : EyeAt h ie s false) (pp : PenAt h ip ip [])
    (hQ : ∀ h2 b r g bs, EyeAt h2 ie r b → PenAt h2 ip g bs → (∃ t, s = bs ++ t ∧ (b = false → r = t)) → Q (.exit 0) (frOf [(0, .str s), (3, .ptr ie 0), (4, .ptr ip 0)]) h2) :
    WP Try.prog 51 (Code.loop c_padlocklaw02_PenOnce_8) (frOf [(0, .str s), (3, .ptr ie 0), (4, .ptr ip 0), (5, .int .i64 0)]) h Q := by
  refine WP_loop mixed_ (by kernel_rfl) (fun m fr hh => ∃ (k : Nat) (r : List UInt8) (g : Nat) (bs : List UInt8), m + k = s.length + 1 ∧ fr = frOf [(0, .str s), (3, .ptr ie 0), (4, .ptr ip 0), (5, .int .i64 k)] ∧ EyeAt hh ie r false ∧ PenAt hh ip g bs ∧ s = bs ++ r) (s.length + 1) ⟨0, s, ip, [], by omega, rfl, pe, pp, by simp⟩ ?_
  rintro m fr hh ⟨k, r, g, bs, hm, rfl, p1, p2, e⟩
  apply padlocklaw02_PenOnce_loop8
  obtain ⟨ne1, ne2⟩ := eye_pen_ne p1 p2
  generalize hI : (fun (m : Nat) (fr : Fr) (hh : AHeap) => ∃ (k : Nat) (r : List UInt8) (g : Nat) (bs : List UInt8), m + k = s.length + 1 ∧ fr = frOf [(0, .str s), (3, .ptr ie 0), (4, .ptr ip 0), (5, .int .i64 k)] ∧ EyeAt hh ie r false ∧ PenAt hh ip g bs ∧ s = bs ++ r) = I
  have hnext : IntKind.i64.wrap ((k : Int) + 1) = ((k + 1 : Nat) : Int) := by rw [wrap_i64 (by omega)]; omega
  simp only [pLen_str, binA_int_leq, obind_some, pCond_bool, decide_eq_true_eq, binA_int_add, hnext, pIdx_eq]
  split
  · rename_i hk
    refine (eye_Nat_does (most := 18446744073709551615) p1 (by omega)).mono ?_
    rintro _ h2 ⟨rfl, p3, k3⟩
    have p2' := p2.keeps k3 (Ne.symm ne1) (Ne.symm ne2)
    rcases eyeAfter_cases 18446744073709551615 r with ⟨q, r', e1, e2, e3⟩ | e1
    · rw [e1] at p3 ⊢
      refine (eye_Bad_does p3).mono ?_
      rintro _ _ ⟨rfl, rfl⟩
      simp only [pCond_bool, Bool.false_eq_true, if_false]
      have hl : bs.length + (natBytes q).length ≤ 1000000000 := by
        have := congrArg List.length e; have := congrArg List.length e2
        simp at *; omega
      refine (pen_Nat_does (by omega) p2' hl).mono ?_
      rintro _ h4 ⟨rfl, g4, p4, k4, _⟩
      obtain ⟨ne3, ne4⟩ := eye_pen_ne p3 p2'
      rw [loopPost_normal, ← hI]
      exact ⟨m - 1, by omega, k + 1, r', g4, _, by omega, rfl, p3.keeps k4 (by rintro (h | h); exact ne3 h; exact ne4 h), p4, by rw [e, e2]; simp⟩
    · rw [e1] at p3 ⊢
      refine (eye_Bad_does p3).mono ?_
      rintro _ _ ⟨rfl, rfl⟩
      simp only [pCond_bool, if_true]
      rw [if_neg (by omega)]
      exact hQ _ _ _ _ _ p3 p2' ⟨r, e, fun h => by cases h⟩
  · exact hQ _ _ _ _ _ p1 p2 ⟨r, e, fun _ => rfl⟩

theorem PenOnce_does (s : List UInt8) (h : AHeap) : CallsA Try.prog 3 [.str s] h (fun v _ => v = .bool true) := by
  apply padlocklaw02_PenOnce_wp
  refine (alive_does h).mono ?_
  rintro _ h1 ⟨rfl, k1⟩
  simp only [unA_not, obind_some, pCond_bool, Bool.not_true, Bool.false_eq_true, if_false, pLen_str, binA_int_gtr, decide_eq_true_eq]
  split
  · trivial
  · rename_i hl
    refine (pen_Of_does s h1).mono ?_
    rintro _ h2 ⟨rfl, p2, k2⟩
    simp only [pAlloc_eq]
    have hl2 : s.length ≤ 1000 := by omega
    refine penOnce_loop hl2 (p2.keeps (Keeps.push h2 _) (by simp)) (pen_new h2) ?_
    intro h3 b r g bs p3 p4 ⟨t, e, hb⟩
    simp only [exitQ_exit, pIdx_eq, if_true, frOf_cons]
    simp
    refine (pen_Bytes_does p4).mono ?_
    rintro _ _ ⟨rfl, rfl⟩
    have hlen : bs.length ≤ s.length := by rw [e]; simp
    have htake : s.take bs.length = bs := by rw [e]; simp
    simp [pSliceStr, bnd, hlen, htake]
    refine (eye_Done_does p3).mono ?_
    rintro _ _ ⟨rfl, rfl⟩
    cases b
    · have hr := hb rfl
      subst hr
      cases r with
      | nil => simp at e ⊢; simp [e]
      | cons c r => simp
    · simp

end Go.Proofs.Ytpoeoekoafpdhaa
