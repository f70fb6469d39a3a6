/- PenBack: what was put is read again, item by item, and nothing is left. -/
import Derived.Test.YtpoeoekoafpdhaaPutsDoes
set_option linter.unusedVariables false
set_option linter.unusedSimpArgs false
namespace Go.Proofs.Ytpoeoekoafpdhaa
open Go.Abs

theorem zag_zig {n : Int} (h0 : -9223372036854775808 ≤ n) (h1 : n ≤ 9223372036854775807) : zag (zig n) = n := by
  unfold zig zag
  split <;> split <;> omega

/-- What a text's reading gives: the text, the rest, whether the eye is bad. -/
def textAfter (most : Int) (r : List UInt8) : List UInt8 × List UInt8 × Bool :=
  match eyeNat (if 0 > most then 0 else most).toNat r with
  | none => ([], [], true)
  | some (n, r') => if r'.length < n then ([], [], true) else (r'.take n, r'.drop n, false)

theorem eye_Text_does {i : Nat} {r : List UInt8} {h : AHeap} {most : Int} (p : EyeAt h i r false) (hm : most ≤ 9223372036854775807) :
    CallsA Try.prog 28 [.ptr i 0, .int .i64 most] h (fun v h2 => v = .str (textAfter most r).1 ∧ EyeAt h2 i (textAfter most r).2.1 (textAfter most r).2.2 ∧ Keeps h h2 (fun k => k = i)) := by
  apply pen_Eye_Text_wp
  obtain ⟨m, hmm⟩ : ∃ m : Nat, (if 0 > most then 0 else most) = (m : Int) := ⟨(if 0 > most then 0 else most).toNat, by split <;> omega⟩
  have hm63 : m ≤ 9223372036854775807 := by split at hmm <;> omega
  have e : maxA [.int .i64 most, .int .i64 0] = some (.int .i64 (if 0 > most then 0 else most)) := by simp [maxA]
  have e2 : IntKind.u64.wrap (m : Int) = (m : Int) := by rw [wr_u64]; omega
  rw [e, obind_some, hmm]
  simp only [pConv_int, e2]
  unfold textAfter
  rw [hmm]
  simp only [Int.toNat_natCast]
  refine (eye_Nat_does (most := m) p (by omega)).mono ?_
  rintro _ h2 ⟨rfl, p2, k2⟩
  unfold eyeAfter at p2 ⊢
  cases he : eyeNat m r with
  | none =>
    simp only [he] at p2 ⊢
    have hpl1 : ∀ K, pLoad none (.ptr i 1) h2 K = K (.bool true) := fun K => by rw [pLoad_ptr p2.2]; simp
    simp [hpl1]
    exact ⟨p2, k2⟩
  | some x =>
    obtain ⟨n, r'⟩ := x
    have hn := (eyeNat_some he).2
    simp only [he] at p2 ⊢
    have hpl1 : ∀ K, pLoad none (.ptr i 1) h2 K = K (.bool false) := fun K => by rw [pLoad_ptr p2.2]; simp
    have hpl : ∀ K, pLoad none (.ptr i 0) h2 K = K (.str r') := fun K => by rw [pLoad_ptr p2.2]; simp
    have e3 : IntKind.i64.wrap (n : Int) = (n : Int) := wrap_i64 (by omega)
    simp only [pConv_int, e3, binA_ptr_eql_nil, obind_some, pJoin_eq, pGuard_bool, if_true, pNil_ptr, pFieldAddr_ptr, Nat.zero_add, hpl1, nth_zero, nth_cons, pPick_false, pCond_bool, Bool.false_eq_true, if_false, hpl, pLen_str, binA_int_gtr, decide_eq_true_eq]
    by_cases hl : r'.length < n
    · rw [if_pos (by omega : (r'.length : Int) < (n : Int)), if_pos hl]
      refine (eye_fail_does p2).mono ?_
      rintro _ h3 ⟨rfl, p3, k3⟩
      exact ⟨rfl, p3, k2.trans k3 fun _ _ h => h⟩
    · rw [if_neg (by omega : ¬ (r'.length : Int) < (n : Int)), if_neg hl]
      simp only [pSliceStr, bnd, Int.toNat_natCast, hpl]
      refine ⟨by omega, by omega, by omega, by omega, by omega, by omega, ?_⟩
      rw [pStore_ptr p2.2 rfl (by simp)]
      refine ⟨by simp, ⟨by simpa using p2.1, by simp⟩, k2.trans ⟨Nat.le_refl _, fun j hj hs => by simp [hs]⟩ fun _ _ h => h⟩

def allBytes (xs : List Itm) : List UInt8 := (xs.map Itm.bytes).flatten

theorem allBytes_take {xs : List Itm} {k : Nat} {x : Itm} (h : xs[k]? = some x) : allBytes (xs.take (k + 1)) = allBytes (xs.take k) ++ x.bytes := by
  have hk := (List.getElem?_eq_some_iff.1 h)
  obtain ⟨hl, he⟩ := hk
  rw [List.take_succ_eq_append_getElem hl, he]
  simp [allBytes]
theorem allBytes_drop {xs : List Itm} {k : Nat} {x : Itm} (h : xs[k]? = some x) : allBytes (xs.drop k) = x.bytes ++ allBytes (xs.drop (k + 1)) := by
  obtain ⟨hl, he⟩ := List.getElem?_eq_some_iff.1 h
  rw [List.drop_eq_getElem_cons hl, he]
  simp [allBytes]

theorem back_loop1 {a : AV} {xs : List Itm} {i : Nat} {h : AHeap} {Q : AExit → Fr → AHeap → Prop} (ha : ItemsAt a xs) (hok : ∀ x ∈ xs, x.ok) (hl : xs.length ≤ 60) (p : PenAt h i i [])
    (hr : ∀ h2, Q .ret (frOf [(2, .bool true)]) h2) (hx : ∀ h2 g, PenAt h2 i g (allBytes xs) → (∀ x ∈ xs, x.s.length ≤ 1000) → Q (.exit 0) (frOf [(0, a), (3, .ptr i 0)]) h2) :
    WP Try.prog 70 (Code.loop c_padlocklaw02_PenBack_7) (frOf [(0, a), (3, .ptr i 0), (14, a), (15, .int .i64 xs.length), (16, .int .i64 0)]) h Q := by
  refine WP_loop mixed_ (by kernel_rfl) (fun m fr hh => ∃ (k : Nat) (g : Nat), m + k = xs.length ∧ fr = frOf [(0, a), (3, .ptr i 0), (14, a), (15, .int .i64 xs.length), (16, .int .i64 k)] ∧ PenAt hh i g (allBytes (xs.take k)) ∧ (allBytes (xs.take k)).length ≤ 1010 * k ∧ ∀ x ∈ xs.take k, x.s.length ≤ 1000) xs.length ⟨0, i, by omega, rfl, by simpa [allBytes] using p, by simp [allBytes], by simp⟩ ?_
  rintro m fr hh ⟨k, g, hm, rfl, p1, hbl, hsm⟩
  apply padlocklaw02_PenBack_loop7
  generalize hI : (fun (m : Nat) (fr : Fr) (hh : AHeap) => ∃ (k : Nat) (g : Nat), m + k = xs.length ∧ fr = frOf [(0, a), (3, .ptr i 0), (14, a), (15, .int .i64 xs.length), (16, .int .i64 k)] ∧ PenAt hh i g (allBytes (xs.take k)) ∧ (allBytes (xs.take k)).length ≤ 1010 * k ∧ ∀ x ∈ xs.take k, x.s.length ≤ 1000) = I
  simp only [binA_int_lss, obind_some, pCond_bool, decide_eq_true_eq]
  split
  · rename_i hk
    have hkl : k < xs.length := by omega
    have hxk : xs[k]? = some xs[k] := List.getElem?_eq_getElem hkl
    generalize xs[k] = x at hxk
    have hxo : x.ok := hok x (List.mem_of_getElem? hxk)
    refine item_in ha hxk ?_
    intro h6 k6 o6 n6
    simp only [pFieldAddr_ptr, Nat.zero_add, item_s o6, pLen_str, binA_int_gtr, obind_some, pCond_bool, decide_eq_true_eq]
    split
    · exact hr _
    · rename_i hs
      have hs' : x.s.length ≤ 1000 := by omega
      have p6 := p1.keeps k6 (by simp) (by simp)
      simp only [item_all o6]
      refine (put_does x hxo hs' p6 (by omega)).mono ?_
      rintro _ h7 ⟨rfl, g7, p7, k7, hg7⟩
      have hbl2 := x.bytes_len hxo hs'
      simp only [binA_int_add, obind_some, wrap1 (show k < 1000000 by omega)]
      rw [loopPost_normal, ← hI]
      have et := allBytes_take hxk
      refine ⟨m - 1, by omega, k + 1, g7, by omega, rfl, by rw [et]; exact p7, by rw [et]; simp; omega, ?_⟩
      intro y hy
      obtain ⟨hl', he⟩ := List.getElem?_eq_some_iff.1 hxk
      rw [List.take_succ_eq_append_getElem hl', he, List.mem_append] at hy
      rcases hy with hy | hy
      · exact hsm y hy
      · have : y = x := by simpa using hy
        subst this; exact hs'
  · have : xs.take k = xs := List.take_of_length_le (by omega)
    rw [this] at p1 hsm
    exact hx _ _ p1 hsm

theorem back_loop2 {a : AV} {xs : List Itm} {i : Nat} {h : AHeap} {Q : AExit → Fr → AHeap → Prop} (ha : ItemsAt a xs) (hok : ∀ x ∈ xs, x.ok) (hl : xs.length ≤ 60) (hsm : ∀ x ∈ xs, x.s.length ≤ 1000) (p : EyeAt h i (allBytes xs) false)
    (hx : ∀ h2, EyeAt h2 i [] false → Q (.exit 2) (frOf [(6, .ptr i 0)]) h2) :
    WP Try.prog 70 (Code.loop c_padlocklaw02_PenBack_15) (frOf [(6, .ptr i 0), (29, a), (30, .int .i64 xs.length), (31, .int .i64 0)]) h Q := by
  refine WP_loop mixed_ (by kernel_rfl) (fun m fr hh => ∃ (k : Nat), m + k = xs.length ∧ fr = frOf [(6, .ptr i 0), (29, a), (30, .int .i64 xs.length), (31, .int .i64 k)] ∧ EyeAt hh i (allBytes (xs.drop k)) false) xs.length ⟨0, by omega, rfl, by simpa using p⟩ ?_
  rintro m fr hh ⟨k, hm, rfl, p1⟩
  apply padlocklaw02_PenBack_loop15
  generalize hI : (fun (m : Nat) (fr : Fr) (hh : AHeap) => ∃ (k : Nat), m + k = xs.length ∧ fr = frOf [(6, .ptr i 0), (29, a), (30, .int .i64 xs.length), (31, .int .i64 k)] ∧ EyeAt hh i (allBytes (xs.drop k)) false) = I
  simp only [binA_int_lss, obind_some, pCond_bool, decide_eq_true_eq]
  split
  · rename_i hk
    have hkl : k < xs.length := by omega
    have hxk : xs[k]? = some xs[k] := List.getElem?_eq_getElem hkl
    generalize xs[k] = x at hxk
    have hxo : x.ok := hok x (List.mem_of_getElem? hxk)
    have hxs := hsm x (List.mem_of_getElem? hxk)
    have ed := allBytes_drop hxk
    rw [ed] at p1
    refine item_in ha hxk ?_
    intro h6 k6 o6 n6
    have p6 := p1.keeps k6 (by simp)
    have hne : hh.next ≠ i := by have := p1.1; omega
    simp only [pFieldAddr_ptr, Nat.zero_add, item_k o6, item_n o6, item_s o6, binA_int_eql, obind_some, pCond_bool, beq_iff_eq, true_and, pConv_int, pLen_str, binA_int_add, wrap1 (show k < 1000000 by omega)]
    have hend : ∀ h7, EyeAt h7 i (allBytes (xs.drop (k + 1))) false → loopPost I m Q .normal (frOf [(6, .ptr i 0), (29, a), (30, .int .i64 xs.length), (31, .int .i64 (k + 1 : Nat))]) h7 := fun h7 p7 => by
      rw [loopPost_normal, ← hI]
      exact ⟨m - 1, by omega, k + 1, by omega, rfl, p7⟩
    by_cases h0 : x.k = 0
    · rw [if_pos h0]
      have e : x.bytes = natBytes x.n := by simp [Itm.bytes, h0]
      rw [e] at p6
      refine (eye_Nat_does (most := x.n) p6 hxo).mono ?_
      rintro _ h7 ⟨rfl, p7, k7⟩
      have ea : eyeAfter x.n (natBytes x.n ++ allBytes (xs.drop (k + 1))) = (x.n, allBytes (xs.drop (k + 1)), false) := by
        unfold eyeAfter; rw [eyeNat_back (Nat.le_refl _) hxo]
      rw [ea] at p7 ⊢
      have o7 : h7.objs hh.next = some (.row 46 x.cells) := by rw [k7.objs _ n6 hne]; exact o6
      simp only [item_n o7, and_self, true_and, binA_int_neq, bne_self_eq_false, obind_some, pCond_bool, Bool.false_eq_true, if_false]
      exact hend _ p7
    · rw [if_neg h0]
      by_cases h1 : x.k = 1
      · rw [if_pos h1]
        have e : x.bytes = natBytes (zig (sgn x.n)) := by simp [Itm.bytes, h1]
        rw [e] at p6
        refine (eye_Int_does p6).mono ?_
        rintro _ h7 ⟨rfl, p7, k7⟩
        have hz := zig_lt (sgn_ge x.n).1 (sgn_ge x.n).2
        have ea : eyeAfter 18446744073709551615 (natBytes (zig (sgn x.n)) ++ allBytes (xs.drop (k + 1))) = (zig (sgn x.n), allBytes (xs.drop (k + 1)), false) := by
          unfold eyeAfter; rw [eyeNat_back (by omega) hz]
        rw [ea] at p7 ⊢
        have o7 : h7.objs hh.next = some (.row 46 x.cells) := by rw [k7.objs _ n6 hne]; exact o6
        simp only [zag_zig (sgn_ge x.n).1 (sgn_ge x.n).2]
        simp only [sgn, item_n o7, and_self, true_and, binA_int_neq, bne_self_eq_false, obind_some, pCond_bool, Bool.false_eq_true, if_false]
        exact hend _ p7
      · rw [if_neg h1]
        have e : x.bytes = textBytes x.s := by simp [Itm.bytes, h0, h1]
        rw [e] at p6
        refine (eye_Text_does (most := (x.s.length : Int)) p6 (by omega)).mono ?_
        rintro _ h7 ⟨rfl, p7, k7⟩
        have ea : textAfter (x.s.length : Int) (textBytes x.s ++ allBytes (xs.drop (k + 1))) = (x.s, allBytes (xs.drop (k + 1)), false) := by
          unfold textAfter textBytes
          rw [if_neg (by omega), Int.toNat_natCast, List.append_assoc, eyeNat_back (Nat.le_refl _) (by omega)]
          simp
        rw [ea] at p7 ⊢
        have o7 : h7.objs hh.next = some (.row 46 x.cells) := by rw [k7.objs _ n6 hne]; exact o6
        simp only [item_s o7, and_self, true_and, binA_str_neq, beq_self_eq_true, Bool.not_true, obind_some, pCond_bool, Bool.false_eq_true, if_false]
        exact hend _ p7
  · have : xs.drop k = [] := List.drop_of_length_le (by omega)
    rw [this] at p1
    exact hx _ p1

theorem PenBack_does {a : AV} {xs : List Itm} (ha : ItemsAt a xs) (hok : ∀ x ∈ xs, x.ok) (h : AHeap) : CallsA Try.prog 11 [a] h (fun v _ => v = .bool true) := by
  apply padlocklaw02_PenBack_wp
  refine (alive_does h).mono ?_
  rintro _ h1 ⟨rfl, k1⟩
  simp only [unA_not, obind_some, pCond_bool, Bool.not_true, Bool.false_eq_true, if_false, ha.1, binA_int_gtr, decide_eq_true_eq]
  split
  · trivial
  · simp only [pAlloc_eq]
    refine back_loop1 ha hok (by omega) (pen_new h1) (fun h2 => by simp) (fun h2 g p2 hsm => ?_)
    simp only [exitQ_exit, pIdx_eq, if_true, frOf_cons]
    simp only [Nat.reduceEqDiff, if_false, if_true]
    refine (pen_Bytes_does p2).mono ?_
    rintro _ _ ⟨rfl, rfl⟩
    refine (pen_Of_does _ _).mono ?_
    rintro _ h3 ⟨rfl, p3, k3⟩
    simp only [ha.1]
    refine back_loop2 ha hok (by omega) hsm p3 (fun h4 p4 => ?_)
    simp only [exitQ_exit, pIdx_eq, if_true, frOf_cons]
    refine (eye_Done_does p4).mono ?_
    rintro _ _ ⟨rfl, rfl⟩
    simp
    refine (eye_Bad_does p4).mono ?_
    rintro _ _ ⟨rfl, rfl⟩
    simp

end Go.Proofs.Ytpoeoekoafpdhaa
