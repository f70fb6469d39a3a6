/- pen: items put by a pen; the document's bytes of them. -/
import Derived.Test.YtpoeoekoafpdhaaPenB
set_option linter.unusedVariables false
set_option linter.unusedSimpArgs false
namespace Go.Proofs.Ytpoeoekoafpdhaa
open Go.Abs

theorem natBytes_len (n : Nat) (hn : n < 18446744073709551616) : (natBytes n).length ≤ 10 := by
  have : ∀ k m, m < 128 ^ (k + 1) → (natBytes m).length ≤ k + 1 := by
    intro k
    induction k with
    | zero => intro m hm; rw [natBytes_lt (by omega)]; simp
    | succ k ih =>
      intro m hm
      by_cases h128 : m < 128
      · rw [natBytes_lt h128]; simp
      · rw [natBytes_ge h128]
        have := ih (m / 128) (by rw [Nat.div_lt_iff_lt_mul (by omega)]; rw [Nat.pow_succ] at hm; omega)
        simp; omega
  have := this 9 n (by omega)
  omega

/-! ### What the document says -/
set_option maxRecDepth 4000 in
theorem ref_Nat_does : ∀ (n : Nat) (h : AHeap), n < 18446744073709551616 → CallsA Try.prog 35 [.int .u64 n] h (fun v h2 => v = .str (natBytes n) ∧ h2 = h) := by
  intro n
  induction n using Nat.strongRecOn with
  | _ n ih =>
    intro h hn
    apply padlockref02_Nat_wp
    by_cases h128 : n < 128
    · have : (n : Int) < 128 := by omega
      have e : bytesOf [[AV.int .u8 ((n : Int) % 256)]] = some (natBytes n) := by
        rw [natBytes_lt h128]
        have : (n : Int) % 256 = ((n : Nat) : Int) := by omega
        rw [this]
        simp [bytesOf]
      simp [this, pBuildSl, fillE, AV.cells, AV.fits, pConv, srcElems, e]
    · have h1 : ¬ (n : Int) < 128 := by omega
      have e1 : (n : Int).tmod 128 = ((n % 128 : Nat) : Int) := rfl
      have e2 : (n : Int).tdiv 128 = ((n / 128 : Nat) : Int) := rfl
      have e3 : IntKind.u64.wrap (((n % 128 : Nat) : Int) + 128) = ((n % 128 + 128 : Nat) : Int) := by rw [wr_u64]; omega
      have e4 : IntKind.u64.wrap ((n / 128 : Nat) : Int) = ((n / 128 : Nat) : Int) := by rw [wr_u64]; omega
      have e5 : IntKind.u8.wrap ((n % 128 + 128 : Nat) : Int) = ((n % 128 + 128 : Nat) : Int) := by rw [wr_u8]; omega
      have e6 : bytesOf [[AV.int .u8 ((n % 128 + 128 : Nat) : Int)]] = some [UInt8.ofNat (n % 128 + 128)] := by rw [← byteEs_ofNat (by omega)]; exact bytesOf_byteEs _
      simp only [binA_int_lss, obind_some, decide_eq_true_eq, pCond_bool, if_neg h1, binA_int_rem, e1, binA_int_add, e3, pConv_int, e5, binA_int_quo, e2, e4, if_neg (show ¬ (128 : Int) = 0 by omega), true_and]
      refine ⟨fun h => by omega, ?_⟩
      simp only [pBuildSl, fillE]
      refine ⟨by simp, by simp, ?_⟩
      simp only [AV.cells, AV.fits, if_true, pConv, srcElems, e6]
      refine (ih (n / 128) (by omega) h (by omega)).mono ?_
      rintro _ _ ⟨rfl, rfl⟩
      simp only [and_true, true_and]
      refine ⟨?_, ?_⟩
      · show (match bytesOf [[AV.int .u8 ((n % 128 + 128 : Nat) : Int)]] with | some s => AV.str s = AV.str [UInt8.ofNat (n % 128 + 128)] | none => False)
        rw [e6]
      rw [binA_str_add (by have := natBytes_len (n / 128) (by omega); simp; omega)]
      rw [natBytes_ge h128]
      rfl

theorem ref_Int_does (n : Int) (h : AHeap) (h0 : -9223372036854775808 ≤ n) (h1 : n ≤ 9223372036854775807) : CallsA Try.prog 36 [.int .i64 n] h (fun v h2 => v = .str (natBytes (zig n)) ∧ h2 = h) := by
  apply padlockref02_Int_wp
  have hz := zig_lt h0 h1
  by_cases hn : 0 ≤ n
  · have e : IntKind.u64.wrap (2 * IntKind.u64.wrap n) = ((zig n : Nat) : Int) := by
      unfold zig; rw [if_pos hn, wr_u64, wr_u64]; omega
    simp only [binA_int_geq, obind_some, pCond_bool, decide_eq_true_eq, if_pos hn, pConv_int, binA_int_mul, e]
    exact ref_Nat_does _ h hz
  · have e1 : IntKind.i64.wrap (n + 1) = n + 1 := wrap_i64 (by omega)
    have e2 : IntKind.i64.wrap (0 - (n + 1)) = 0 - (n + 1) := wrap_i64 (by omega)
    have e : IntKind.u64.wrap (IntKind.u64.wrap (2 * IntKind.u64.wrap (0 - (n + 1))) + 1) = ((zig n : Nat) : Int) := by
      unfold zig; rw [if_neg hn, wr_u64, wr_u64, wr_u64]; omega
    simp only [binA_int_geq, obind_some, pCond_bool, decide_eq_true_eq, if_neg hn, pConv_int, binA_int_mul, binA_int_add, unA_neg, e1, e2, e]
    exact ref_Nat_does _ h hz

def textBytes (s : List UInt8) : List UInt8 := natBytes s.length ++ s

theorem ref_Text_does (s : List UInt8) (h : AHeap) (hs : s.length ≤ 1000) : CallsA Try.prog 38 [.str s] h (fun v h2 => v = .str (textBytes s) ∧ h2 = h) := by
  apply padlockref02_Text_wp
  have e : IntKind.u64.wrap (s.length : Int) = ((s.length : Nat) : Int) := by rw [wr_u64]; omega
  simp only [pLen_str, pConv_int, e]
  refine (ref_Nat_does s.length h (by omega)).mono ?_
  rintro _ _ ⟨rfl, rfl⟩
  have := natBytes_len s.length (by omega)
  rw [binA_str_add (by omega)]
  exact ⟨rfl, rfl⟩

/-! ### The pen's text; a nil pen -/
theorem pen_Text_does {i g : Nat} {bs s : List UInt8} {h : AHeap} (p : PenAt h i g bs) (hs : s.length ≤ 1000) (hl : bs.length ≤ 900000000) :
    CallsA Try.prog 37 [.ptr i 0, .str s] h (fun v h2 => v = .tup [] ∧ ∃ g2, PenAt h2 i g2 (bs ++ textBytes s) ∧ Keeps h h2 (fun k => k = i ∨ k = g) ∧ h.next ≤ g2) := by
  apply pen_Pen_Text_wp
  have e : IntKind.u64.wrap (s.length : Int) = ((s.length : Nat) : Int) := by rw [wr_u64]; omega
  have hnl := natBytes_len s.length (by omega)
  simp only [binA_ptr_eql_nil, obind_some, pCond_bool, Bool.false_eq_true, if_false, pLen_str, pConv_int, e, pNil_ptr, pFieldAddr_ptr, true_and]
  refine (pen_Nat_does (n := s.length) (by omega) p (by omega)).mono ?_
  rintro _ h2 ⟨rfl, g2, p2, k2, hg⟩
  cases s with
  | nil =>
    obtain ⟨q1, q2, ⟨q3, q4, q5⟩ | ⟨q3, q4, q5, q6⟩⟩ := p2
    · rw [natBytes_lt (by simp)] at q3; simp at q3
    · rw [pLoad_ptr q5]
      simp only [Nat.add_zero, pCells_zero, pAppend, srcElems_str, q6]
      refine ⟨trivial, trivial, by simp, by simp [bounded, maxLen]; simp at hnl; omega, ?_⟩
      rw [pStore_ptr (ty := 27) (cs := [.gsl g2 1 (byteEs (bs ++ natBytes ([] : List UInt8).length))]) (by simp [q5, byteEs, q4, Ne.symm q4]; omega) rfl (by simp)]
      refine ⟨h2.next, ⟨by simp; omega, by simp, Or.inr ⟨by simpa [textBytes] using q3, by omega, by simp [byteEs, textBytes], by simp [textBytes]; omega⟩⟩, ⟨by simp; have := k2.next; omega, fun j hj hs => ?_⟩, k2.next⟩
      simp only [not_or] at hs
      have := k2.objs j hj (by simp; omega)
      have hjn := k2.next
      simp only [AHeap.put_objs, if_neg hs.1, AHeap.push_objs, AHeap.kill_objs]
      rw [if_neg (show ¬ j = (h2.kill g2).next by simp only [AHeap.kill_next]; omega), if_neg (show ¬ j = g2 by omega)]
      exact this
  | cons c s =>
    refine pen_put p2 (srcElems_str _ _) (by simp) (by simp at *; omega) ?_
    intro h3 p3 k3
    refine ⟨_, by simpa [textBytes] using p3, k2.trans k3 fun j hj hs => ?_, k2.next⟩
    rcases hs with rfl | rfl
    · exact Or.inl rfl
    · omega

theorem pen_Nat_nil (a : AV) (h : AHeap) : CallsA Try.prog 16 [.nilp, a] h (fun v h2 => v = .tup [] ∧ h2 = h) := by
  apply pen_Pen_Nat_wp
  simp
theorem pen_Int_nil (n : Int) (h : AHeap) : CallsA Try.prog 32 [.nilp, .int .i64 n] h (fun v h2 => v = .tup [] ∧ h2 = h) := by
  apply pen_Pen_Int_wp
  simp [iShr]
  refine (pen_Nat_nil _ h).mono ?_
  rintro _ _ ⟨rfl, rfl⟩
  rfl
theorem pen_Text_nil (a : AV) (h : AHeap) : CallsA Try.prog 37 [.nilp, a] h (fun v h2 => v = .tup [] ∧ h2 = h) := by
  apply pen_Pen_Text_wp
  simp

/-! ### Items -/
structure Itm where
  k : Int
  n : Nat
  s : List UInt8

def Itm.cells (x : Itm) : List AV := [.int .i64 x.k, .int .u64 x.n, .str x.s]
def Itm.ok (x : Itm) : Prop := x.n < 18446744073709551616
/-- A number's bits, read with a sign. -/
def sgn (n : Nat) : Int := IntKind.i64.wrap n
theorem sgn_ge (n : Nat) : -9223372036854775808 ≤ sgn n ∧ sgn n ≤ 9223372036854775807 := by unfold sgn; rw [IntKind.wrap_i64]; omega
def Itm.bytes (x : Itm) : List UInt8 := if x.k = 0 then natBytes x.n else if x.k = 1 then natBytes (zig (sgn x.n)) else textBytes x.s

theorem Itm.bytes_len (x : Itm) (hx : x.ok) (hs : x.s.length ≤ 1000) : x.bytes.length ≤ 1010 := by
  unfold Itm.bytes
  split
  · have := natBytes_len x.n hx; omega
  · split
    · have := natBytes_len _ (zig_lt (sgn_ge x.n).1 (sgn_ge x.n).2); omega
    · have := natBytes_len x.s.length (by omega)
      simp [textBytes]; omega

theorem put_does {i g : Nat} {bs : List UInt8} {h : AHeap} (x : Itm) (hx : x.ok) (hs : x.s.length ≤ 1000) (p : PenAt h i g bs) (hl : bs.length ≤ 900000000) :
    CallsA Try.prog 23 [.ptr i 0, .agg x.cells] h (fun v h2 => v = .str x.bytes ∧ ∃ g2, PenAt h2 i g2 (bs ++ x.bytes) ∧ Keeps h h2 (fun k => k = i ∨ k = g) ∧ h.next ≤ g2) := by
  apply padlocklaw02_put_wp
  simp only [pBox_true, fits_agg, true_and, cells_agg, Itm.cells, pFieldAddr_iptr, List.drop_zero, List.drop_succ_cons, pLoad_iptr, pCells_zero, binA_int_eql, obind_some, pCond_bool, beq_iff_eq, pConv_int]
  have hz := zig_lt (sgn_ge x.n).1 (sgn_ge x.n).2
  have hz2 := natBytes_len _ hz
  by_cases h0 : x.k = 0
  · rw [if_pos h0]
    have e : x.bytes = natBytes x.n := by simp [Itm.bytes, h0]
    rw [e]
    have := natBytes_len x.n hx
    refine (pen_Nat_does hx p (by omega)).mono ?_
    rintro _ h2 ⟨rfl, g2, p2, k2, hg⟩
    refine (ref_Nat_does x.n h2 hx).mono ?_
    rintro _ _ ⟨rfl, rfl⟩
    exact ⟨rfl, g2, p2, k2, hg⟩
  · rw [if_neg h0]
    by_cases h1 : x.k = 1
    · rw [if_pos h1]
      have e : x.bytes = natBytes (zig (sgn x.n)) := by simp [Itm.bytes, h1]
      rw [e]
      refine (pen_Int_does (sgn_ge x.n).1 (sgn_ge x.n).2 p (by omega)).mono ?_
      rintro _ h2 ⟨rfl, g2, p2, k2, hg⟩
      refine (ref_Int_does _ h2 (sgn_ge x.n).1 (sgn_ge x.n).2).mono ?_
      rintro _ _ ⟨rfl, rfl⟩
      exact ⟨rfl, g2, p2, k2, hg⟩
    · rw [if_neg h1]
      have e : x.bytes = textBytes x.s := by simp [Itm.bytes, h0, h1]
      rw [e]
      refine (pen_Text_does p hs hl).mono ?_
      rintro _ h2 ⟨rfl, g2, p2, k2, hg⟩
      refine (ref_Text_does x.s h2 hs).mono ?_
      rintro _ _ ⟨rfl, rfl⟩
      exact ⟨rfl, g2, p2, k2, hg⟩

theorem put_nil (x : Itm) (hx : x.ok) (hs : x.s.length ≤ 1000) (h : AHeap) : CallsA Try.prog 23 [.nilp, .agg x.cells] h (fun v h2 => v = .str x.bytes ∧ h2 = h) := by
  apply padlocklaw02_put_wp
  simp only [pBox_true, fits_agg, true_and, cells_agg, Itm.cells, pFieldAddr_iptr, List.drop_zero, List.drop_succ_cons, pLoad_iptr, pCells_zero, binA_int_eql, obind_some, pCond_bool, beq_iff_eq, pConv_int]
  by_cases h0 : x.k = 0
  · rw [if_pos h0]
    have e : x.bytes = natBytes x.n := by simp [Itm.bytes, h0]
    rw [e]
    refine (pen_Nat_nil _ h).mono ?_
    rintro _ h2 ⟨rfl, e2⟩
    rw [← e2]
    exact ref_Nat_does x.n h2 hx
  · rw [if_neg h0]
    by_cases h1 : x.k = 1
    · rw [if_pos h1]
      have e : x.bytes = natBytes (zig (sgn x.n)) := by simp [Itm.bytes, h1]
      rw [e]
      refine (pen_Int_nil _ h).mono ?_
      rintro _ h2 ⟨rfl, e2⟩
      rw [← e2]
      exact ref_Int_does _ h2 (sgn_ge x.n).1 (sgn_ge x.n).2
    · rw [if_neg h1]
      have e : x.bytes = textBytes x.s := by simp [Itm.bytes, h0, h1]
      rw [e]
      refine (pen_Text_nil _ h).mono ?_
      rintro _ h2 ⟨rfl, e2⟩
      rw [← e2]
      exact ref_Text_does x.s h2 hs

/-- A slice of items, as an argument has it. -/
def ItemsAt (a : AV) (xs : List Itm) : Prop := (∀ K, pLen .slice a K = K (.int .i64 xs.length)) ∧ ∀ (k : Nat) (x : Itm), xs[k]? = some x → ∀ K : AV → Prop, K (.iptr x.cells) → pIndexAddr (.slice 3) a (.int .i64 k) K

theorem items_of {a : AV} (h : TyV Try.prog 43 a) : ∃ xs : List Itm, ItemsAt a xs ∧ ∀ x ∈ xs, x.ok := by
  have hc : Try.prog.cellsOf 46 = 3 := by kernel_rfl
  rcases h.inv_slice Try.underlying43 (by rw [hc]; omega) with rfl | ⟨es, rfl, -, ht⟩
  · exact ⟨[], ⟨fun K => by simp, fun k x hx => by simp at hx⟩, by simp⟩
  · rw [hc]
    have : ∃ xs : List Itm, es = xs.map Itm.cells ∧ ∀ x ∈ xs, x.ok := by
      clear h
      induction es with
      | nil => exact ⟨[], rfl, by simp⟩
      | cons e es ih =>
        cases ht with
        | cons h1 h2 =>
          obtain ⟨xs, e1, hx⟩ := ih h2
          obtain ⟨parts, e2, hp⟩ := h1.inv_struct Try.underlying46
          simp only [List.map_cons, List.map_nil] at hp
          obtain ⟨p1, r1, rfl, t1, hp⟩ := hp.cons_inv
          obtain ⟨p2, r2, rfl, t2, hp⟩ := hp.cons_inv
          obtain ⟨p3, r3, rfl, t3, hp⟩ := hp.cons_inv
          obtain rfl := hp.nil_inv
          obtain ⟨k, rfl, -, -⟩ := t1.inv_int Try.underlying3
          obtain ⟨n, rfl, n1, n2⟩ := t2.inv_int Try.underlying28
          obtain ⟨s, rfl, -⟩ := t3.inv_str Try.underlying9
          obtain ⟨n, rfl⟩ : ∃ m : Nat, n = m := ⟨n.toNat, by simp [IntKind.min, IntKind.signed] at n1; omega⟩
          simp [IntKind.max, IntKind.signed, IntKind.bits] at n2
          refine ⟨⟨k, n, s⟩ :: xs, ?_, ?_⟩
          · rw [e1, e2]; simp [Itm.cells]
          · intro x hx'
            rcases List.mem_cons.1 hx' with rfl | hx'
            · show n < _; omega
            · exact hx x hx'
    obtain ⟨xs, rfl, hx⟩ := this
    refine ⟨xs, ⟨fun K => by simp, fun k x hk K hK => ?_⟩, hx⟩
    simp [pIndexAddr, hk, hK]

end Go.Proofs.Ytpoeoekoafpdhaa
