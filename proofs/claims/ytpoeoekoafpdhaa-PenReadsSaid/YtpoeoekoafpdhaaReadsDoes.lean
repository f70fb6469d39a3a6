/- PenReads: what is read of any bytes is what the document says, whatever is asked for; a nil eye is bad. -/
import Derived.Test.YtpoeoekoafpdhaaRead
set_option linter.unusedVariables false
set_option linter.unusedSimpArgs false
set_option maxRecDepth 8000
namespace Go.Proofs.Ytpoeoekoafpdhaa
open Go.Abs

theorem eyeAfter_ref {most : Nat} (hm : most < 18446744073709551616) (r : List UInt8) : eyeAfter most r = if (refRead r).2 = 0 ∨ most < (refRead r).1 then (0, [], true) else ((refRead r).1, r.drop (refRead r).2, false) := by
  unfold eyeAfter refRead
  cases he : eyeNat 18446744073709551615 r with
  | none =>
    cases h2 : eyeNat most r with
    | none => simp
    | some x =>
      exfalso
      obtain ⟨e1, e2⟩ := eyeNat_some h2
      have := eyeNat_back (most := 18446744073709551615) (m := x.1) (r' := x.2) (by omega) (by omega)
      rw [← e1, he] at this; cases this
  | some x =>
    obtain ⟨n, r'⟩ := x
    obtain ⟨e1, e2⟩ := eyeNat_some he
    have hp := natBytes_pos n
    have hlen : r.length - r'.length = (natBytes n).length := by rw [e1]; simp
    simp only [hlen]
    by_cases hn : n ≤ most
    · have := eyeNat_back (r' := r') hn (by omega)
      rw [← e1] at this
      rw [this, if_neg (by omega)]
      rw [e1]; simp
    · rw [if_pos (Or.inr (by omega))]
      cases h2 : eyeNat most r with
      | none => rfl
      | some y =>
        exfalso
        obtain ⟨f1, f2⟩ := eyeNat_some h2
        have := eyeNat_back (most := 18446744073709551615) (m := y.1) (r' := y.2) (by omega) (by omega)
        rw [← f1, he] at this
        simp at this
        omega

/-! ### The document's eye -/
def RefAt (h : AHeap) (i : Nat) (r : List UInt8) (bad : Bool) : Prop := i < h.next ∧ h.objs i = some (.row 55 [.str r, .bool bad])
theorem RefAt.keeps {h h' : AHeap} {i : Nat} {r : List UInt8} {b : Bool} {S : Nat → Prop} (p : RefAt h i r b) (k : Keeps h h' S) (hi : ¬ S i) : RefAt h' i r b :=
  ⟨Nat.lt_of_lt_of_le p.1 k.next, by rw [k.objs i p.1 hi]; exact p.2⟩

/-- A reading in any state. -/
def natAny (most : Nat) (r : List UInt8) (b : Bool) : Nat × List UInt8 × Bool := if b then (0, [], true) else eyeAfter most r
def textAny (most : Int) (r : List UInt8) (b : Bool) : List UInt8 × List UInt8 × Bool := if b then ([], [], true) else textAfter most r

theorem refRead_len (r : List UInt8) : (refRead r).2 ≤ r.length := by unfold refRead; split <;> simp

theorem ref_eye_Nat_does {i most : Nat} {r : List UInt8} {b : Bool} {h : AHeap} (p : RefAt h i r b) (hm : most < 18446744073709551616) :
    CallsA Try.prog 25 [.ptr i 0, .int .u64 most] h (fun v h2 => v = .int .u64 (natAny most r b).1 ∧ RefAt h2 i (natAny most r b).2.1 (natAny most r b).2.2 ∧ Keeps h h2 (fun k => k = i)) := by
  apply padlockref02_Eye_Nat_wp
  have hpl : ∀ K, pLoad none (.ptr i 0) h K = K (.str r) := fun K => by rw [pLoad_ptr p.2]; simp
  have hpl1 : ∀ K, pLoad none (.ptr i 1) h K = K (.bool b) := fun K => by rw [pLoad_ptr p.2]; simp
  simp only [pNil_ptr, pFieldAddr_ptr, Nat.zero_add, hpl]
  refine (ref_Read_does r h).mono ?_
  rintro _ h2 ⟨rfl, e⟩
  rw [e]
  have hfail : pStore 1 (.ptr i 1) (.bool true) h fun h23 => pStore 1 (.ptr i 0) (.str []) h23 fun h26 => RefAt h26 i [] true ∧ Keeps h h26 (fun k => k = i) := by
    rw [pStore_ptr p.2 rfl (by simp)]
    rw [pStore_ptr (ty := 55) (cs := [.str r, .bool true]) (by simp) rfl (by simp)]
    exact ⟨⟨by simpa using p.1, by simp⟩, ⟨Nat.le_refl _, fun j hj hs => by simp [hs]⟩⟩
  have hl := refRead_len r
  have hk0 : (((refRead r).2 : Int) == 0) = decide ((refRead r).2 = 0) := by rw [Bool.eq_iff_iff]; simp
  have hnm : decide ((most : Int) < ((refRead r).1 : Int)) = decide (most < (refRead r).1) := by rw [Bool.eq_iff_iff]; simp
  simp only [pExtract_tup, List.getElem?_cons_zero, List.getElem?_cons_succ, hpl1, pJoin_eq, pGuard_bool, binA_int_eql, obind_some, nth_zero, nth_cons, binA_int_gtr, hk0, hnm]
  cases b with
  | true =>
    simp [natAny]
    rw [pStore_ptr p.2 rfl (by simp)] at hfail ⊢
    rw [pStore_ptr (ty := 55) (cs := [.str r, .bool true]) (by simp) rfl (by simp)] at hfail ⊢
    exact hfail
  | false =>
    have ha := eyeAfter_ref hm r
    by_cases hc : (refRead r).2 = 0 ∨ most < (refRead r).1
    · rw [if_pos hc] at ha
      simp only [natAny, Bool.false_eq_true, if_false, ha]
      rw [pStore_ptr p.2 rfl (by simp)] at hfail
      rw [pStore_ptr (ty := 55) (cs := [.str r, .bool true]) (by simp) rfl (by simp)] at hfail
      by_cases hc1 : (refRead r).2 = 0
      · simp [hc1]
        rw [pStore_ptr p.2 rfl (by simp)]
        rw [pStore_ptr (ty := 55) (cs := [.str r, .bool true]) (by simp) rfl (by simp)]
        exact hfail
      · have hc2 : most < (refRead r).1 := by omega
        simp [hc1, hc2]
        rw [pStore_ptr p.2 rfl (by simp)]
        rw [pStore_ptr (ty := 55) (cs := [.str r, .bool true]) (by simp) rfl (by simp)]
        exact hfail
    · rw [if_neg hc] at ha
      simp only [natAny, Bool.false_eq_true, if_false, ha]
      have hc1 : ¬ (refRead r).2 = 0 := by omega
      have hc2 : ¬ most < (refRead r).1 := by omega
      simp [hc1, hc2, hpl, pSliceStr, bnd]
      refine ⟨by omega, ?_⟩
      rw [pStore_ptr p.2 rfl (by simp)]
      exact ⟨⟨by simpa using p.1, by simp⟩, ⟨Nat.le_refl _, fun j hj hs => by simp [hs]⟩⟩


theorem natAny_lt {most : Nat} (hm : most < 18446744073709551616) (r : List UInt8) (b : Bool) : (natAny most r b).1 ≤ most := by
  unfold natAny
  split
  · simp
  · rcases eyeAfter_cases most r with ⟨m, r', e, _, h⟩ | e <;> rw [e] <;> simp
    exact h

theorem ref_eye_Int_does {i : Nat} {r : List UInt8} {b : Bool} {h : AHeap} (p : RefAt h i r b) :
    CallsA Try.prog 27 [.ptr i 0] h (fun v h2 => v = .int .i64 (zag (natAny 18446744073709551615 r b).1) ∧ RefAt h2 i (natAny 18446744073709551615 r b).2.1 (natAny 18446744073709551615 r b).2.2 ∧ Keeps h h2 (fun k => k = i)) := by
  apply padlockref02_Eye_Int_wp
  have hlt := natAny_lt (most := 18446744073709551615) (by omega) r b
  refine (ref_eye_Nat_does (most := 18446744073709551615) p (by omega)).mono ?_
  rintro _ h2 ⟨rfl, p2, k2⟩
  generalize (natAny 18446744073709551615 r b) = q at *
  obtain ⟨n, r2, b2⟩ := q
  simp only at hlt p2 ⊢
  have e1 : (n : Int).tmod 2 = ((n % 2 : Nat) : Int) := rfl
  have e2 : (n : Int).tdiv 2 = ((n / 2 : Nat) : Int) := rfl
  have e3 : IntKind.u64.wrap ((n / 2 : Nat) : Int) = ((n / 2 : Nat) : Int) := by rw [wr_u64]; omega
  have e4 : IntKind.i64.wrap ((n / 2 : Nat) : Int) = ((n / 2 : Nat) : Int) := wrap_i64 (by omega)
  have e5 : IntKind.i64.wrap (0 - ((n / 2 : Nat) : Int)) = 0 - ((n / 2 : Nat) : Int) := wrap_i64 (by omega)
  have e6 : IntKind.i64.wrap (0 - ((n / 2 : Nat) : Int) - 1) = -1 - ((n / 2 : Nat) : Int) := by rw [wrap_i64 (by omega)]; omega
  have hz : (((n % 2 : Nat) : Int) == 0) = decide (n % 2 = 0) := by rw [Bool.eq_iff_iff]; simp; omega
  simp only [binA_int_rem, if_neg (show ¬ (2 : Int) = 0 by omega), obind_some, e1, binA_int_eql, hz, pCond_bool, decide_eq_true_eq, binA_int_quo, e2, e3, pConv_int, e4, unA_neg, e5, binA_int_sub, e6]
  unfold zag
  split
  · exact ⟨rfl, p2, k2⟩
  · exact ⟨rfl, p2, k2⟩

theorem ref_eye_Text_does {i : Nat} {r : List UInt8} {b : Bool} {h : AHeap} {most : Int} (p : RefAt h i r b) (hm : most ≤ 9223372036854775807) (hr : r.length ≤ 1000) :
    CallsA Try.prog 29 [.ptr i 0, .int .i64 most] h (fun v h2 => v = .str (textAny most r b).1 ∧ RefAt h2 i (textAny most r b).2.1 (textAny most r b).2.2 ∧ Keeps h h2 (fun k => k = i)) := by
  apply padlockref02_Eye_Text_wp
  obtain ⟨m, hmm⟩ : ∃ m : Nat, (if 0 > most then 0 else most) = (m : Int) := ⟨(if 0 > most then 0 else most).toNat, by split <;> omega⟩
  have hm63 : m ≤ 9223372036854775807 := by split at hmm <;> omega
  have e : maxA [.int .i64 most, .int .i64 0] = some (.int .i64 (if 0 > most then 0 else most)) := by simp [maxA]
  have e2 : IntKind.u64.wrap (m : Int) = (m : Int) := by rw [wr_u64]; omega
  rw [e, obind_some, hmm]
  simp only [pConv_int, e2]
  unfold textAny textAfter
  rw [hmm]
  simp only [Int.toNat_natCast]
  refine (ref_eye_Nat_does (most := m) p (by omega)).mono ?_
  rintro _ h2 ⟨rfl, p2, k2⟩
  have fail : ∀ {r3 : List UInt8} {b3 : Bool}, RefAt h2 i r3 b3 → pStore 1 (.ptr i 1) (.bool true) h2 fun h23 => pStore 1 (.ptr i 0) (.str []) h23 fun h26 => RefAt h26 i [] true ∧ Keeps h h26 (fun k => k = i) := fun {r3 b3} p3 => by
    rw [pStore_ptr p3.2 rfl (by simp)]
    rw [pStore_ptr (ty := 55) (cs := [.str r3, .bool true]) (by simp) rfl (by simp)]
    exact ⟨⟨by simpa using p3.1, by simp⟩, k2.trans ⟨Nat.le_refl _, fun j hj hs => by simp [hs]⟩ fun _ _ h => h⟩
  cases b with
  | true =>
    simp only [natAny, if_true] at p2 ⊢
    have hpl1 : ∀ K, pLoad none (.ptr i 1) h2 K = K (.bool true) := fun K => by rw [pLoad_ptr p2.2]; simp
    have hf := fail p2
    rw [pStore_ptr p2.2 rfl (by simp)] at hf
    rw [pStore_ptr (ty := 55) (cs := [.str [], .bool true]) (by simp) rfl (by simp)] at hf
    simp [hpl1]
    rw [pStore_ptr p2.2 rfl (by simp)]
    rw [pStore_ptr (ty := 55) (cs := [.str [], .bool true]) (by simp) rfl (by simp)]
    exact hf
  | false =>
    simp only [natAny, Bool.false_eq_true, if_false] at p2 ⊢
    unfold eyeAfter at p2 ⊢
    cases he : eyeNat m r with
    | none =>
      simp only [he] at p2 ⊢
      have hpl1 : ∀ K, pLoad none (.ptr i 1) h2 K = K (.bool true) := fun K => by rw [pLoad_ptr p2.2]; simp
      have hf := fail p2
      rw [pStore_ptr p2.2 rfl (by simp)] at hf
      rw [pStore_ptr (ty := 55) (cs := [.str [], .bool true]) (by simp) rfl (by simp)] at hf
      simp [hpl1]
      rw [pStore_ptr p2.2 rfl (by simp)]
      rw [pStore_ptr (ty := 55) (cs := [.str [], .bool true]) (by simp) rfl (by simp)]
      exact hf
    | some x =>
      obtain ⟨n, r'⟩ := x
      have hn := (eyeNat_some he).2
      have hrl : r'.length ≤ 1000 := by have := congrArg List.length (eyeNat_some he).1; simp at this; omega
      simp only [he] at p2 ⊢
      have hpl1 : ∀ K, pLoad none (.ptr i 1) h2 K = K (.bool false) := fun K => by rw [pLoad_ptr p2.2]; simp
      have hpl : ∀ K, pLoad none (.ptr i 0) h2 K = K (.str r') := fun K => by rw [pLoad_ptr p2.2]; simp
      have e3 : IntKind.i64.wrap (n : Int) = (n : Int) := wrap_i64 (by omega)
      have e4 : IntKind.u64.wrap (r'.length : Int) = (r'.length : Int) := by rw [wr_u64]; omega
      have hd : decide ((r'.length : Int) < (n : Int)) = decide (r'.length < n) := by rw [Bool.eq_iff_iff]; simp
      simp only [pNil_ptr, pFieldAddr_ptr, Nat.zero_add, hpl1, pJoin_eq, pGuard_bool, if_true, hpl, pLen_str, pConv_int, e4, binA_int_gtr, obind_some, nth_zero, nth_cons, pPick_false, hd, pCond_bool, decide_eq_true_eq]
      by_cases hl : r'.length < n
      · rw [if_pos hl, if_pos hl]
        have hf := fail p2
        rw [pStore_ptr p2.2 rfl (by simp)] at hf ⊢
        rw [pStore_ptr (ty := 55) (cs := [.str r', .bool true]) (by simp) rfl (by simp)] at hf ⊢
        exact ⟨rfl, hf⟩
      · rw [if_neg hl, if_neg hl]
        simp only [e3, pSliceStr, bnd, Int.toNat_natCast, hpl]
        refine ⟨by omega, by omega, by omega, by omega, by omega, by omega, ?_⟩
        rw [pStore_ptr p2.2 rfl (by simp)]
        refine ⟨by simp, ⟨by simpa using p2.1, by simp⟩, k2.trans ⟨Nat.le_refl _, fun j hj hs => by simp [hs]⟩ fun _ _ h => h⟩

/-! ### The eye in any state -/
theorem eye_Nat_any {i most : Nat} {r : List UInt8} {b : Bool} {h : AHeap} (p : EyeAt h i r b) (hb : b = true → r = []) (hm : most < 18446744073709551616) :
    CallsA Try.prog 14 [.ptr i 0, .int .u64 most] h (fun v h2 => v = .int .u64 (natAny most r b).1 ∧ EyeAt h2 i (natAny most r b).2.1 (natAny most r b).2.2 ∧ Keeps h h2 (fun k => k = i)) := by
  cases b with
  | false => exact eye_Nat_does p hm
  | true =>
    refine (eye_Nat_bad p).mono ?_
    rintro _ h2 ⟨rfl, e⟩
    rw [e]
    exact ⟨by simp [natAny], by simpa [natAny, hb rfl] using p, Keeps.refl _ _⟩
theorem eye_Int_any {i : Nat} {r : List UInt8} {b : Bool} {h : AHeap} (p : EyeAt h i r b) (hb : b = true → r = []) :
    CallsA Try.prog 26 [.ptr i 0] h (fun v h2 => v = .int .i64 (zag (natAny 18446744073709551615 r b).1) ∧ EyeAt h2 i (natAny 18446744073709551615 r b).2.1 (natAny 18446744073709551615 r b).2.2 ∧ Keeps h h2 (fun k => k = i)) := by
  cases b with
  | false => exact eye_Int_does p
  | true =>
    refine (eye_Int_bad p).mono ?_
    rintro _ h2 ⟨rfl, e⟩
    rw [e]
    exact ⟨by simp [natAny, zag], by simpa [natAny, hb rfl] using p, Keeps.refl _ _⟩
theorem eye_Text_any {i : Nat} {r : List UInt8} {b : Bool} {h : AHeap} {most : Int} (p : EyeAt h i r b) (hb : b = true → r = []) (hm : most ≤ 9223372036854775807) :
    CallsA Try.prog 28 [.ptr i 0, .int .i64 most] h (fun v h2 => v = .str (textAny most r b).1 ∧ EyeAt h2 i (textAny most r b).2.1 (textAny most r b).2.2 ∧ Keeps h h2 (fun k => k = i)) := by
  cases b with
  | false => exact eye_Text_does p hm
  | true =>
    have hpl1 : ∀ K, pLoad none (.ptr i 1) h K = K (.bool true) := fun K => by rw [pLoad_ptr p.2]; simp
    apply pen_Eye_Text_wp
    have e : maxA [.int .i64 most, .int .i64 0] = some (.int .i64 (if 0 > most then 0 else most)) := by simp [maxA]
    rw [e, obind_some]
    simp only [pConv_int]
    refine (eye_Nat_bad p).mono ?_
    rintro _ h2 ⟨rfl, e⟩
    rw [e]
    simp [hpl1]
    exact ⟨by simp [textAny], by simpa [textAny, hb rfl] using p, Keeps.refl _ _⟩

theorem natAny_inv (most : Nat) (r : List UInt8) (b : Bool) : ((natAny most r b).2.2 = true → (natAny most r b).2.1 = []) ∧ (natAny most r b).2.1.length ≤ r.length := by
  unfold natAny
  split
  · simp
  · rcases eyeAfter_cases most r with ⟨m, r', e, e1, _⟩ | e
    · rw [e]; simp; rw [e1]; simp
    · rw [e]; simp
theorem textAny_inv (most : Int) (r : List UInt8) (b : Bool) : ((textAny most r b).2.2 = true → (textAny most r b).2.1 = []) ∧ (textAny most r b).2.1.length ≤ r.length := by
  unfold textAny textAfter
  split
  · simp
  · cases he : eyeNat (if 0 > most then 0 else most).toNat r with
    | none => simp
    | some x =>
      obtain ⟨n, r'⟩ := x
      have e1 := (eyeNat_some he).1
      simp only
      split
      · simp
      · simp; rw [e1]; simp; omega


theorem eye_ref_ne {h : AHeap} {i j : Nat} {r r2 : List UInt8} {b b2 : Bool} (p : EyeAt h i r b) (q : RefAt h j r2 b2) : i ≠ j := by
  rintro rfl
  have := p.2.symm.trans q.2
  simp at this

theorem reads_loop {a : AV} {xs : List Itm} {s : List UInt8} {i j : Nat} {h : AHeap} {Q : AExit → Fr → AHeap → Prop} (ha : ItemsAt a xs) (hok : ∀ x ∈ xs, x.ok) (hl : xs.length ≤ 60) (hs : s.length ≤ 1000) (pe : EyeAt h i s false) (pr : RefAt h j s false)
    (hx : ∀ h2, Q (.exit 0) (frOf []) h2) :
    WP Try.prog 109 (Code.loop c_padlocklaw02_PenReads_8) (frOf [(5, .ptr i 0), (6, .ptr j 0), (25, a), (26, .int .i64 xs.length), (27, .int .i64 0)]) h Q := by
  refine WP_loop mixed_ (by kernel_rfl) (fun m fr hh => ∃ (k : Nat) (r : List UInt8) (b : Bool), m + k = xs.length ∧ fr = frOf [(5, .ptr i 0), (6, .ptr j 0), (25, a), (26, .int .i64 xs.length), (27, .int .i64 k)] ∧ EyeAt hh i r b ∧ RefAt hh j r b ∧ (b = true → r = []) ∧ r.length ≤ 1000) xs.length ⟨0, s, false, by omega, rfl, pe, pr, by simp, hs⟩ ?_
  rintro m fr hh ⟨k, r, b, hm, rfl, p1, q1, hb, hrl⟩
  apply padlocklaw02_PenReads_loop8
  generalize hI : (fun (m : Nat) (fr : Fr) (hh : AHeap) => ∃ (k : Nat) (r : List UInt8) (b : Bool), m + k = xs.length ∧ fr = frOf [(5, .ptr i 0), (6, .ptr j 0), (25, a), (26, .int .i64 xs.length), (27, .int .i64 k)] ∧ EyeAt hh i r b ∧ RefAt hh j r b ∧ (b = true → r = []) ∧ r.length ≤ 1000) = I
  simp only [binA_int_lss, obind_some, pCond_bool, decide_eq_true_eq]
  split
  · rename_i hk
    have hkl : k < xs.length := by omega
    have hxk : xs[k]? = some xs[k] := List.getElem?_eq_getElem hkl
    generalize xs[k] = x at hxk
    have hxo : x.ok := hok x (List.mem_of_getElem? hxk)
    refine item_in ha hxk ?_
    intro h6 k6 o6 n6
    have p6 := p1.keeps k6 (by simp)
    have q6 := q1.keeps k6 (by simp)
    have hne := eye_ref_ne p6 q6
    have hnei : hh.next ≠ i := by have := p1.1; omega
    have hend : ∀ h7 r7 b7, EyeAt h7 i r7 b7 → RefAt h7 j r7 b7 → (b7 = true → r7 = []) → r7.length ≤ 1000 → loopPost I m Q .normal (frOf [(5, .ptr i 0), (6, .ptr j 0), (25, a), (26, .int .i64 xs.length), (27, .int .i64 (k + 1 : Nat))]) h7 := fun h7 r7 b7 g1 g2 g3 g4 => by
      rw [loopPost_normal, ← hI]
      exact ⟨m - 1, by omega, k + 1, r7, b7, by omega, rfl, g1, g2, g3, g4⟩
    have hw := wrap1 (show k < 1000000 by omega)
    simp only [pFieldAddr_ptr, Nat.zero_add, item_k o6, item_n o6, binA_int_eql, obind_some, pCond_bool, beq_iff_eq, true_and, pConv_int, binA_int_add, hw]
    by_cases h0 : x.k = 0
    · rw [if_pos h0]
      refine (eye_Nat_any (most := x.n) p6 hb hxo).mono ?_
      rintro _ h7 ⟨rfl, p7, k7⟩
      have o7 : h7.objs hh.next = some (.row 46 x.cells) := by rw [k7.objs _ n6 hnei]; exact o6
      have q7 := q6.keeps k7 (Ne.symm hne)
      simp only [item_n o7, and_self, true_and]
      refine (ref_eye_Nat_does q7 hxo).mono ?_
      rintro _ h8 ⟨rfl, q8, k8⟩
      have p8 := p7.keeps k8 hne
      obtain ⟨hb8, hl8⟩ := natAny_inv x.n r b
      have hl9 := Nat.le_trans hl8 hrl
      clear hl8
      generalize natAny x.n r b = st at *
      obtain ⟨v8, r8, b8⟩ := st
      simp only at p8 q8 hb8 hl9 ⊢
      have hpl1 : ∀ K, pLoad none (.ptr j 1) h8 K = K (.bool b8) := fun K => by rw [pLoad_ptr q8.2]; simp
      have hpl0 : ∀ K, pLoad none (.ptr j 0) h8 K = K (.str r8) := fun K => by rw [pLoad_ptr q8.2]; simp
      simp only [binA_int_neq, bne_self_eq_false, beq_self_eq_true, Bool.not_true, obind_some, pCond_bool, Bool.false_eq_true, if_false, pNil_ptr, pFieldAddr_ptr, Nat.zero_add, hpl1, true_and]
      refine (eye_Bad_does p8).mono ?_
      rintro _ h9 ⟨rfl, e⟩
      subst e
      have hfin := hend _ _ _ p8 q8 hb8 hl9
      have hdone := eye_Done_does p8
      clear hI hend
      cases b8 with
      | true =>
        simp only [hpl1, and_self, true_and, binA_bool_neq, beq_self_eq_true, Bool.not_true, obind_some, pJoin_eq, pGuardS_bool, pGuardS_tup, if_true, nth_zero, nth_cons, pNil_ptr, pFieldAddr_ptr, Nat.zero_add, unA_not]
        refine hdone.mono ?_
        rintro _ h10 ⟨rfl, e⟩
        subst e
        simp only [hpl1, hpl0, and_self, true_and, nth_zero, nth_cons, pGuardS_bool, pGuardS_tup, pPick_false, pPick_true, binA_bool_neq, obind_some, pCond_bool, Bool.not_true, Bool.false_and, beq_self_eq_true, Bool.false_eq_true, if_false, if_true, reduceIte]
        exact hfin
      | false =>
        simp only [hpl1, and_self, true_and, binA_bool_neq, beq_self_eq_true, Bool.not_true, obind_some, pJoin_eq, pGuardS_bool, pGuardS_tup, if_true, nth_zero, nth_cons, pNil_ptr, pFieldAddr_ptr, Nat.zero_add, unA_not, Bool.not_false]
        refine hdone.mono ?_
        rintro _ h10 ⟨rfl, e⟩
        subst e
        simp only [hpl1, hpl0, and_self, true_and, nth_zero, nth_cons, pGuardS_bool, pGuardS_tup, pPick_false, pPick_true, binA_bool_neq, binA_str_eql, obind_some, pCond_bool, Bool.not_true, Bool.not_false, Bool.true_and, beq_self_eq_true, Bool.false_eq_true, if_false, if_true, pNil_ptr, pFieldAddr_ptr, Nat.zero_add, reduceIte]
        exact hfin
    · rw [if_neg h0]
      by_cases h1 : x.k = 1
      · rw [if_pos h1]
        refine (eye_Int_any p6 hb).mono ?_
        rintro _ h7 ⟨rfl, p7, k7⟩
        have q7 := q6.keeps k7 (Ne.symm hne)
        refine (ref_eye_Int_does q7).mono ?_
        rintro _ h8 ⟨rfl, q8, k8⟩
        have p8 := p7.keeps k8 hne
        obtain ⟨hb8, hl8⟩ := natAny_inv 18446744073709551615 r b
        have hl9 := Nat.le_trans hl8 hrl
        clear hl8
        generalize natAny 18446744073709551615 r b = st at *
        obtain ⟨v8, r8, b8⟩ := st
        simp only at p8 q8 hb8 hl9 ⊢
        have hpl1 : ∀ K, pLoad none (.ptr j 1) h8 K = K (.bool b8) := fun K => by rw [pLoad_ptr q8.2]; simp
        have hpl0 : ∀ K, pLoad none (.ptr j 0) h8 K = K (.str r8) := fun K => by rw [pLoad_ptr q8.2]; simp
        simp only [binA_int_neq, bne_self_eq_false, beq_self_eq_true, Bool.not_true, obind_some, pCond_bool, Bool.false_eq_true, if_false, pNil_ptr, pFieldAddr_ptr, Nat.zero_add, hpl1, true_and]
        refine (eye_Bad_does p8).mono ?_
        rintro _ h9 ⟨rfl, e⟩
        subst e
        have hfin := hend _ _ _ p8 q8 hb8 hl9
        have hdone := eye_Done_does p8
        clear hI hend
        cases b8 with
        | true =>
          simp only [hpl1, and_self, true_and, binA_bool_neq, beq_self_eq_true, Bool.not_true, obind_some, pJoin_eq, pGuardS_bool, pGuardS_tup, if_true, nth_zero, nth_cons, pNil_ptr, pFieldAddr_ptr, Nat.zero_add, unA_not]
          refine hdone.mono ?_
          rintro _ h10 ⟨rfl, e⟩
          subst e
          simp only [hpl1, hpl0, and_self, true_and, nth_zero, nth_cons, pGuardS_bool, pGuardS_tup, pPick_false, pPick_true, binA_bool_neq, obind_some, pCond_bool, Bool.not_true, Bool.false_and, beq_self_eq_true, Bool.false_eq_true, if_false, if_true, reduceIte]
          exact hfin
        | false =>
          simp only [hpl1, and_self, true_and, binA_bool_neq, beq_self_eq_true, Bool.not_true, obind_some, pJoin_eq, pGuardS_bool, pGuardS_tup, if_true, nth_zero, nth_cons, pNil_ptr, pFieldAddr_ptr, Nat.zero_add, unA_not, Bool.not_false]
          refine hdone.mono ?_
          rintro _ h10 ⟨rfl, e⟩
          subst e
          simp only [hpl1, hpl0, and_self, true_and, nth_zero, nth_cons, pGuardS_bool, pGuardS_tup, pPick_false, pPick_true, binA_bool_neq, binA_str_eql, obind_some, pCond_bool, Bool.not_true, Bool.not_false, Bool.true_and, beq_self_eq_true, Bool.false_eq_true, if_false, if_true, pNil_ptr, pFieldAddr_ptr, Nat.zero_add, reduceIte]
          exact hfin
      · rw [if_neg h1]
        refine (eye_Text_any (most := sgn x.n) p6 hb (sgn_ge x.n).2).mono ?_
        rintro _ h7 ⟨rfl, p7, k7⟩
        have o7 : h7.objs hh.next = some (.row 46 x.cells) := by rw [k7.objs _ n6 hnei]; exact o6
        have q7 := q6.keeps k7 (Ne.symm hne)
        simp only [item_n o7, and_self, true_and]
        refine (ref_eye_Text_does (most := sgn x.n) q7 (sgn_ge x.n).2 hrl).mono ?_
        rintro _ h8 ⟨rfl, q8, k8⟩
        have p8 := p7.keeps k8 hne
        obtain ⟨hb8, hl8⟩ := textAny_inv (sgn x.n) r b
        have hl9 := Nat.le_trans hl8 hrl
        clear hl8
        generalize textAny (sgn x.n) r b = st at *
        obtain ⟨v8, r8, b8⟩ := st
        simp only at p8 q8 hb8 hl9 ⊢
        have hpl1 : ∀ K, pLoad none (.ptr j 1) h8 K = K (.bool b8) := fun K => by rw [pLoad_ptr q8.2]; simp
        have hpl0 : ∀ K, pLoad none (.ptr j 0) h8 K = K (.str r8) := fun K => by rw [pLoad_ptr q8.2]; simp
        simp only [binA_str_neq, bne_self_eq_false, beq_self_eq_true, Bool.not_true, obind_some, pCond_bool, Bool.false_eq_true, if_false, pNil_ptr, pFieldAddr_ptr, Nat.zero_add, hpl1, true_and]
        refine (eye_Bad_does p8).mono ?_
        rintro _ h9 ⟨rfl, e⟩
        subst e
        have hfin := hend _ _ _ p8 q8 hb8 hl9
        have hdone := eye_Done_does p8
        clear hI hend
        cases b8 with
        | true =>
          simp only [hpl1, and_self, true_and, binA_bool_neq, beq_self_eq_true, Bool.not_true, obind_some, pJoin_eq, pGuardS_bool, pGuardS_tup, if_true, nth_zero, nth_cons, pNil_ptr, pFieldAddr_ptr, Nat.zero_add, unA_not]
          refine hdone.mono ?_
          rintro _ h10 ⟨rfl, e⟩
          subst e
          simp only [hpl1, hpl0, and_self, true_and, nth_zero, nth_cons, pGuardS_bool, pGuardS_tup, pPick_false, pPick_true, binA_bool_neq, obind_some, pCond_bool, Bool.not_true, Bool.false_and, beq_self_eq_true, Bool.false_eq_true, if_false, if_true, reduceIte]
          exact hfin
        | false =>
          simp only [hpl1, and_self, true_and, binA_bool_neq, beq_self_eq_true, Bool.not_true, obind_some, pJoin_eq, pGuardS_bool, pGuardS_tup, if_true, nth_zero, nth_cons, pNil_ptr, pFieldAddr_ptr, Nat.zero_add, unA_not, Bool.not_false]
          refine hdone.mono ?_
          rintro _ h10 ⟨rfl, e⟩
          subst e
          simp only [hpl1, hpl0, and_self, true_and, nth_zero, nth_cons, pGuardS_bool, pGuardS_tup, pPick_false, pPick_true, binA_bool_neq, binA_str_eql, obind_some, pCond_bool, Bool.not_true, Bool.not_false, Bool.true_and, beq_self_eq_true, Bool.false_eq_true, if_false, if_true, pNil_ptr, pFieldAddr_ptr, Nat.zero_add, reduceIte]
          exact hfin
  · exact hx _

theorem PenReads_does {a : AV} {xs : List Itm} (s : List UInt8) (ha : ItemsAt a xs) (hok : ∀ x ∈ xs, x.ok) (h : AHeap) : CallsA Try.prog 8 [.str s, a] h (fun v _ => v = .bool true) := by
  apply padlocklaw02_PenReads_wp
  refine (alive_does h).mono ?_
  rintro _ h1 ⟨rfl, k1⟩
  simp only [unA_not, obind_some, pCond_bool, Bool.not_true, Bool.false_eq_true, if_false, ha.1, pLen_str, binA_int_gtr, pJoin_eq, pGuard_bool, nth_zero, nth_cons, decide_eq_false_iff_not]
  by_cases hs : (1000 : Int) < (s.length : Int)
  · simp [hs]
  · by_cases hl : (60 : Int) < (xs.length : Int)
    · simp [hs, hl]
    · simp only [hs, hl, not_false_eq_true, if_true, decide_false, nth_zero, nth_cons, pPick_false, pCond_bool, Bool.false_eq_true, if_false]
      refine (pen_Of_does _ _).mono ?_
      rintro _ h3 ⟨rfl, p3, k3⟩
      have hbx : ∀ K : AV → AHeap → Prop, K (.ptr h3.next 0) (h3.push (.row 55 [.str s, .bool false])) → pBuild [(0, 1), (1, 1)] [AV.str [], AV.bool false] [(0, .str s)] fun v14 => pBox false 55 v14 h3 K := fun K hK => by
        simp [pBuild, fillA, AV.cells, AV.fits]
        exact hK
      refine hbx _ ?_
      have p4 := p3.keeps (Keeps.push h3 (.row 55 [.str s, .bool false])) (by simp)
      refine reads_loop ha hok (by omega) (by omega) p4 ⟨by simp, by simp⟩ (fun h5 => ?_)
      simp only [exitQ_exit, pIdx_eq, if_true]
      have n1 : ∀ hh, CallsA Try.prog 14 [.nilp, .int .u64 9] hh (fun v h2 => v = .int .u64 0 ∧ h2 = hh) := fun hh => by apply pen_Eye_Nat_wp; simp
      have n1b : ∀ x hh, CallsA Try.prog 14 [.nilp, x] hh (fun v h2 => v = .int .u64 0 ∧ h2 = hh) := fun x hh => by apply pen_Eye_Nat_wp; simp
      have n2 : ∀ hh, CallsA Try.prog 26 [.nilp] hh (fun v h2 => v = .int .i64 0 ∧ h2 = hh) := fun hh => by
        apply pen_Eye_Int_wp
        refine (n1b _ _).mono ?_
        rintro _ _ ⟨rfl, rfl⟩
        simp [iShr, iAnd, iXor, IntKind.bits, IntKind.wrap_i64, Int.fdiv]
      have n3 : ∀ hh, CallsA Try.prog 28 [.nilp, .int .i64 9] hh (fun v h2 => v = .str [] ∧ h2 = hh) := fun hh => by
        apply pen_Eye_Text_wp
        simp [maxA]
        refine (n1b _ _).mono ?_
        rintro _ _ ⟨rfl, rfl⟩
        simp
      have n4 : ∀ hh, CallsA Try.prog 15 [.nilp] hh (fun v h2 => v = .bool true ∧ h2 = hh) := fun hh => by apply pen_Eye_Bad_wp; simp
      have n5 : ∀ hh, CallsA Try.prog 18 [.nilp] hh (fun v h2 => v = .bool false ∧ h2 = hh) := fun hh => by apply pen_Eye_Done_wp; simp
      refine (n1 _).mono ?_
      rintro _ _ ⟨rfl, rfl⟩
      simp
      refine (n2 _).mono ?_
      rintro _ _ ⟨rfl, rfl⟩
      simp
      refine (n3 _).mono ?_
      rintro _ _ ⟨rfl, rfl⟩
      simp
      refine (n4 _).mono ?_
      rintro _ _ ⟨rfl, rfl⟩
      simp
      refine (n5 _).mono ?_
      rintro _ _ ⟨rfl, rfl⟩
      simp

end Go.Proofs.Ytpoeoekoafpdhaa
