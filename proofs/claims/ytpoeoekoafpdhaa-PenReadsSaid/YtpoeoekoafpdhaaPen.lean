/- pen: what the functions of the pen and the eye do, in plain words. -/
import Derived.Test.YtpoeoekoafpdhaaVc
import Derived.Test.YtpoeoekoafpdhaaAbsBits
set_option linter.unusedVariables false
set_option linter.unusedSimpArgs false
namespace Go.Proofs.Ytpoeoekoafpdhaa
open Go.Abs

/-- A number's bytes: seven bits a byte, the lowest first. -/
def natBytes (n : Nat) : List UInt8 := if h : n < 128 then [UInt8.ofNat n] else UInt8.ofNat (n % 128 + 128) :: natBytes (n / 128)

theorem natBytes_lt {n : Nat} (h : n < 128) : natBytes n = [UInt8.ofNat n] := by rw [natBytes]; simp [h]
theorem natBytes_ge {n : Nat} (h : ¬ n < 128) : natBytes n = UInt8.ofNat (n % 128 + 128) :: natBytes (n / 128) := by rw [natBytes]; simp [h]

theorem or128 : ∀ x, x < 256 → x ||| 128 = x % 128 + 128 := by decide +kernel

def byteEs (bs : List UInt8) : List (List AV) := bs.map fun b => [.int .u8 b.toNat]
@[simp] theorem byteEs_length (bs : List UInt8) : (byteEs bs).length = bs.length := by simp [byteEs]
@[simp] theorem byteEs_append (a b : List UInt8) : byteEs a ++ byteEs b = byteEs (a ++ b) := by simp [byteEs]
@[simp] theorem bytesOf_byteEs (bs : List UInt8) : bytesOf (byteEs bs) = some bs := by
  induction bs with
  | nil => rfl
  | cons b bs ih => simp only [byteEs, List.map_cons, bytesOf] at ih ⊢; rw [ih]; simp

theorem byteEs_ofNat {m : Nat} (hm : m < 256) : byteEs [UInt8.ofNat m] = [[.int .u8 m]] := by
  simp only [byteEs, List.map_cons, List.map_nil, UInt8.toNat_ofNat', Nat.mod_eq_of_lt hm]

/-- The pen i with the bytes bs; g: the right to write behind them (i itself, if it has no row yet). -/
def PenAt (h : AHeap) (i g : Nat) (bs : List UInt8) : Prop :=
  i < h.next ∧ g < h.next ∧ ((bs = [] ∧ g = i ∧ h.objs i = some (.row 27 [.nils])) ∨ (bs ≠ [] ∧ g ≠ i ∧ h.objs i = some (.row 27 [.gsl g 1 (byteEs bs)]) ∧ h.objs g = some (.tok 5 bs.length)))

theorem PenAt.keeps {h h' : AHeap} {i g : Nat} {bs : List UInt8} {S : Nat → Prop} (p : PenAt h i g bs) (k : Keeps h h' S) (hi : ¬ S i) (hg : ¬ S g) : PenAt h' i g bs := by
  obtain ⟨p1, p2, p3⟩ := p
  refine ⟨Nat.lt_of_lt_of_le p1 k.next, Nat.lt_of_lt_of_le p2 k.next, ?_⟩
  rw [k.objs i p1 hi, k.objs g p2 hg]
  exact p3

theorem srcElems_isl (sz : Nat) (es : List (List AV)) (h : AHeap) : srcElems sz (.isl sz es) h = some es := by simp [srcElems]
theorem srcElems_str (s : List UInt8) (h : AHeap) : srcElems 1 (.str s) h = some (byteEs s) := by simp [srcElems, byteEs]

/-- Bytes put behind the pen's. -/
theorem pen_put {h : AHeap} {i g : Nat} {bs es : List UInt8} {src : AV} {K : AHeap → Prop} (p : PenAt h i g bs) (he : srcElems 1 src h = some (byteEs es)) (hne : es ≠ []) (hl : bs.length + es.length ≤ 1000000000)
    (hK : ∀ h2, PenAt h2 i h.next (bs ++ es) → Keeps h h2 (fun k => k = i ∨ k = g) → K h2) :
    pLoad none (.ptr i 0) h fun x => pAppend true { e := 5, sz := 1, by_ := 1 } x src h fun v h1 => pStore 1 (.ptr i 0) v h1 K := by
  obtain ⟨p1, p2, ⟨rfl, rfl, p3⟩ | ⟨p3, p4, p5, p6⟩⟩ := p
  · rw [pLoad_ptr p3]
    simp only [pCells_zero]
    obtain ⟨e, es, rfl⟩ := List.exists_cons_of_ne_nil hne
    simp only [pAppend, he, newSl, byteEs, List.map_cons, if_true]
    refine ⟨by simp [bounded, maxLen] at hl ⊢; omega, ?_⟩
    rw [pStore_ptr (ty := 27) (cs := [.nils]) (by simp [p3]; omega) rfl (by simp)]
    refine hK _ ⟨by simp; omega, by simp, Or.inr ⟨by simp, by simp; omega, by simp [byteEs], by simp; omega⟩⟩ ⟨by simp, fun j hj hs => ?_⟩
    simp only [not_or] at hs
    simp [hs.1]
    omega
  · rw [pLoad_ptr p5]
    simp only [pCells_zero, pAppend, he, p6]
    refine ⟨trivial, trivial, by simp, by simp [bounded, maxLen]; omega, ?_⟩
    rw [pStore_ptr (ty := 27) (cs := [.gsl g 1 (byteEs bs)]) (by simp [p5, p4, Ne.symm p4]; omega) rfl (by simp)]
    refine hK _ ⟨by simp; omega, by simp, Or.inr ⟨by simp [p3], by simp; omega, by simp [byteEs], by simp; omega⟩⟩ ⟨by simp, fun j hj hs => ?_⟩
    simp only [not_or] at hs
    simp [hs.1, hs.2]
    omega


theorem pen_Nat_loop (i : Nat) (n : Nat) (g : Nat) (bs : List UInt8) (h : AHeap) (Q : AExit → Fr → AHeap → Prop) (hn : n < 18446744073709551616) (p : PenAt h i g bs) (hl : bs.length + (natBytes n).length ≤ 1000000000)
    (hQ : ∀ h2 m g2 bs2, m < 128 → PenAt h2 i g2 bs2 → bs2 ++ [UInt8.ofNat m] = bs ++ natBytes n → Keeps h h2 (fun k => k = i ∨ k = g) → (g2 = g ∨ h.next ≤ g2) → Q (.exit 0) (frOf [(0, .ptr i 0), (1, .int .u64 m)]) h2) :
    WP Try.prog 33 (Code.loop c_pen_Pen_Nat_1) (frOf [(0, .ptr i 0), (1, .int .u64 n)]) h Q := by
  refine WP_loop mixed_ (by kernel_rfl) (fun m fr h1 => ∃ g1 bs1, m < 18446744073709551616 ∧ fr = frOf [(0, .ptr i 0), (1, .int .u64 m)] ∧ PenAt h1 i g1 bs1 ∧ bs1 ++ natBytes m = bs ++ natBytes n ∧ Keeps h h1 (fun k => k = i ∨ k = g) ∧ (g1 = g ∨ h.next ≤ g1)) n ⟨g, bs, hn, rfl, p, rfl, .refl _ _, Or.inl rfl⟩ ?_
  rintro m fr h1 ⟨g1, bs1, hm, rfl, p1, e1, k1, hg⟩
  apply pen_Pen_Nat_loop1
  have hlen : bs1.length + (natBytes m).length ≤ 1000000000 := by
    have := congrArg List.length e1
    simp only [List.length_append] at this; omega
  by_cases h128 : m < 128
  · rw [natBytes_lt h128] at e1
    have : ¬ (128 : Int) ≤ m := by omega
    simp [obind, this]
    exact hQ _ _ _ _ h128 p1 e1 k1 hg
  · have : (128 : Int) ≤ m := by omega
    rw [natBytes_ge h128] at e1 hlen
    have e2 : iOr .u8 ((m : Int) % 256) 128 = ((m % 128 + 128 : Nat) : Int) := by
      rw [show (m : Int) % 256 = ((m % 256 : Nat) : Int) from rfl, show (128 : Int) = ((128 : Nat) : Int) from rfl, iOr_u8 _ _ (by omega) (by omega)]
      rw [or128 _ (by omega)]; omega
    simp [obind, this, pBuildSl, fillE, e2]
    refine pen_put p1 (es := [UInt8.ofNat (m % 128 + 128)]) ?_ ?_ ?_ ?_
    · rw [byteEs_ofNat (by omega)]; simp [srcElems, AV.cells]
    · simp
    · simp at hlen ⊢; omega
    · intro h2 p2 k2
      rw [show (7 : Int) = ((7 : Nat) : Int) from rfl, iShr_u64 _ _ (by omega)]
      rw [loopPost_normal]
      refine ⟨m / 128, by omega, by omega, rfl, _, _, p2, by simpa using e1, k1.trans k2 fun j hj hs => ?_, Or.inr k1.next⟩
      rcases hs with rfl | rfl
      · exact Or.inl rfl
      · rcases hg with rfl | hg
        · exact Or.inr rfl
        · omega

theorem pen_Nat_does {i g : Nat} {bs : List UInt8} {h : AHeap} {n : Nat} (hn : n < 18446744073709551616) (p : PenAt h i g bs) (hl : bs.length + (natBytes n).length ≤ 1000000000) :
    CallsA Try.prog 16 [.ptr i 0, .int .u64 n] h (fun v h2 => v = .tup [] ∧ ∃ g2, PenAt h2 i g2 (bs ++ natBytes n) ∧ Keeps h h2 (fun k => k = i ∨ k = g) ∧ h.next ≤ g2) := by
  apply pen_Pen_Nat_wp
  simp
  refine pen_Nat_loop i n g bs h _ hn p hl fun h2 m g2 bs2 hm p2 e2 k2 hg => ?_
  simp [pBuildSl, fillE]
  refine pen_put p2 (es := [UInt8.ofNat m]) ?_ (by simp) (by have := congrArg List.length e2; simp at this ⊢; omega) ?_
  · rw [byteEs_ofNat (by omega)]; simp [srcElems, AV.cells]; omega
  · intro h3 p3 k3
    rw [e2] at p3
    refine ⟨_, p3, k2.trans k3 fun j hj hs => ?_, k2.next⟩
    rcases hs with rfl | rfl
    · exact Or.inl rfl
    · rcases hg with rfl | hg
      · exact Or.inr rfl
      · omega


theorem pen_Bytes_does {i g : Nat} {bs : List UInt8} {h : AHeap} (p : PenAt h i g bs) : CallsA Try.prog 17 [.ptr i 0] h (fun v h2 => v = .str bs ∧ h2 = h) := by
  apply pen_Pen_Bytes_wp
  simp
  obtain ⟨p1, p2, ⟨rfl, rfl, p3⟩ | ⟨p3, p4, p5, p6⟩⟩ := p
  · rw [pLoad_ptr p3]; simp [pConv, srcElems, bytesOf]
  · rw [pLoad_ptr p5]; simp [pConv, srcElems]
theorem pen_Bytes_nil (h : AHeap) : CallsA Try.prog 17 [.nilp] h (fun v h2 => v = .str [] ∧ h2 = h) := by
  apply pen_Pen_Bytes_wp
  simp

/-- A new pen. -/
theorem pen_new (h : AHeap) : PenAt (h.push (.row 27 [.nils])) h.next h.next [] := ⟨by simp, by simp, Or.inl ⟨rfl, rfl, by simp⟩⟩

/-! ### The eye -/
def EyeAt (h : AHeap) (i : Nat) (r : List UInt8) (bad : Bool) : Prop := i < h.next ∧ h.objs i = some (.row 69 [.str r, .bool bad])

theorem EyeAt.keeps {h h' : AHeap} {i : Nat} {r : List UInt8} {b : Bool} {S : Nat → Prop} (p : EyeAt h i r b) (k : Keeps h h' S) (hi : ¬ S i) : EyeAt h' i r b :=
  ⟨Nat.lt_of_lt_of_le p.1 k.next, by rw [k.objs i p.1 hi]; exact p.2⟩

theorem pen_Of_does (s : List UInt8) (h : AHeap) : CallsA Try.prog 13 [.str s] h (fun v h2 => v = .ptr h.next 0 ∧ EyeAt h2 h.next s false ∧ Keeps h h2 (fun _ => False)) := by
  apply pen_Of_wp
  simp [pBuild, fillA, AV.cells, AV.fits, EyeAt]
  exact Keeps.push _ _

theorem eye_Bad_does {i : Nat} {r : List UInt8} {b : Bool} {h : AHeap} (p : EyeAt h i r b) : CallsA Try.prog 15 [.ptr i 0] h (fun v h2 => v = .bool b ∧ h2 = h) := by
  apply pen_Eye_Bad_wp
  simp
  rw [pLoad_ptr p.2]; simp

theorem eye_Done_does {i : Nat} {r : List UInt8} {b : Bool} {h : AHeap} (p : EyeAt h i r b) : CallsA Try.prog 18 [.ptr i 0] h (fun v h2 => v = .bool (!b && r == []) ∧ h2 = h) := by
  apply pen_Eye_Done_wp
  simp
  rw [pLoad_ptr p.2]
  cases b <;> simp
  rw [pLoad_ptr p.2]; simp

theorem eye_fail_does {i : Nat} {r : List UInt8} {b : Bool} {h : AHeap} (p : EyeAt h i r b) : CallsA Try.prog 33 [.ptr i 0] h (fun v h2 => v = .int .u64 0 ∧ EyeAt h2 i [] true ∧ Keeps h h2 (fun k => k = i)) := by
  apply pen_Eye_fail_wp
  simp
  rw [pStore_ptr p.2 rfl (by simp)]
  rw [pStore_ptr (ty := 69) (cs := [.str r, .bool true]) (by simp) rfl (by simp)]
  exact ⟨⟨by simpa using p.1, by simp⟩, ⟨Nat.le_refl _, fun j hj hs => by simp [hs]⟩⟩

/-- What is read: fuel (so many bytes at most), the bytes, what has been read. -/
def eyeGo (most : Nat) : Nat → List UInt8 → Nat → Option (Nat × List UInt8)
  | 0, _, _ => none
  | _ + 1, [], _ => none
  | k + 1, c :: r, n =>
    if k = 0 ∧ 1 < c.toNat then none
    else if c.toNat < 128 then (if (c.toNat = 0 ∧ k ≠ 9) ∨ most < n + c.toNat % 128 * 2 ^ (7 * (9 - k)) then none else some (n + c.toNat % 128 * 2 ^ (7 * (9 - k)), r))
    else eyeGo most k r (n + c.toNat % 128 * 2 ^ (7 * (9 - k)))

def eyeNat (most : Nat) (r : List UInt8) : Option (Nat × List UInt8) := eyeGo most 10 r 0

theorem eye_Nat_loop {i most : Nat} {r : List UInt8} {h : AHeap} {Q : AExit → Fr → AHeap → Prop} (p : EyeAt h i r false) (hm : most < 18446744073709551616)
    (h1 : ∀ m r' k, eyeNat most r = some (m, r') → r.drop k = r' → k ≤ r.length → k ≤ 10 → Q (.exit 0) (frOf [(0, .ptr i 0), (5, .int .u64 m), (6, .int .i64 k)]) h)
    (h2 : eyeNat most r = none → ∀ h2, EyeAt h2 i [] true → Keeps h h2 (fun k => k = i) → Q .ret (frOf [(4, .int .u64 0)]) h2) :
    WP Try.prog 83 (Code.loop c_pen_Eye_Nat_4) (frOf [(0, .ptr i 0), (1, .int .u64 most), (5, .int .u64 0), (6, .int .i64 0)]) h Q := by
  refine WP_loop mixed_ (by kernel_rfl) (fun k fr hh => hh = h ∧ ∃ (n : Nat), fr = frOf [(0, .ptr i 0), (1, .int .u64 most), (5, .int .u64 n), (6, .int .i64 (10 - k : Nat))] ∧ k ≤ 10 ∧ n < 2 ^ (7 * (10 - k)) ∧ eyeGo most k (r.drop (10 - k)) n = eyeNat most r) 10 ⟨rfl, 0, rfl, by omega, by simp, by simp [eyeNat]⟩ ?_
  rintro k fr hh ⟨rfl, n, rfl, hk, hn, he⟩
  apply pen_Eye_Nat_loop4
  have hpl : ∀ K, pLoad none (.ptr i 0) hh K = K (.str r) := fun K => by rw [pLoad_ptr p.2]; simp
  have hfail : eyeNat most r = none → CallsA Try.prog 33 [.ptr i 0] hh fun v28 h29 => loopPost (fun k fr hh_1 => hh_1 = hh ∧ ∃ (n : Nat), fr = frOf [(0, .ptr i 0), (1, .int .u64 most), (5, .int .u64 n), (6, .int .i64 (10 - k : Nat))] ∧ k ≤ 10 ∧ n < 2 ^ (7 * (10 - k)) ∧ eyeGo most k (r.drop (10 - k)) n = eyeNat most r) k Q .ret (frOf [(4, v28)]) h29 := fun hnone => by
    refine CallsA.mono (eye_fail_does p) ?_
    rintro _ h3 ⟨rfl, p3, k3⟩
    exact h2 hnone _ p3 k3
  generalize hI : (fun k fr hh_1 => hh_1 = hh ∧ ∃ (n : Nat), fr = frOf [(0, AV.ptr i 0), (1, AV.int .u64 most), (5, .int .u64 n), (6, .int .i64 (10 - k : Nat))] ∧ k ≤ 10 ∧ n < 2 ^ (7 * (10 - k)) ∧ eyeGo most k (r.drop (10 - k)) n = eyeNat most r) = I at hfail ⊢
  rcases k with _ | k
  · by_cases hl : (r.length : Int) ≤ 10 <;> simp [hpl, hl, Int.not_lt.2, Int.not_le.1] <;> exact hfail (by rw [← he]; simp [eyeGo])
  · have e9 : 10 - (k + 1) = 9 - k := by omega
    rw [e9] at he hn ⊢
    cases hd : r.drop (9 - k) with
    | nil =>
      have hl : r.length ≤ 9 - k := by simpa using hd
      have hl' : ((r.length : Int) ≤ ((9 - k : Nat) : Int)) := by omega
      rw [hd] at he
      simp [hpl, hl, hl']
      exact hfail (by rw [← he]; simp [eyeGo])
    | cons c rr =>
      have hlt : 9 - k < r.length := by
        have := congrArg List.length hd
        simp at this; omega
      have hc : r[9 - k]? = some c := by
        have := congrArg (fun l => l[0]?) hd
        simpa using this
      have hrr : r.drop (9 - k + 1) = rr := by
        have := congrArg (fun l => l.drop 1) hd
        simpa using this
      rw [hd] at he
      obtain ⟨t, ht⟩ : ∃ t, t = 9 - k := ⟨_, rfl⟩
      rw [← ht] at hc hlt hrr hn
      simp only [eyeGo, ← ht] at he
      rw [← ht]
      have hc256 : c.toNat < 256 := c.toNat_lt
      obtain ⟨x, hx⟩ : ∃ x, x = c.toNat % 128 := ⟨_, rfl⟩
      rw [← hx] at he
      obtain ⟨e, he7⟩ : ∃ e, e = 7 * t := ⟨_, rfl⟩
      rw [← he7] at he hn
      have hidx : ∀ K, pIndexStr (.str r) (.int .i64 (t : Int)) K = K (.int .u8 c.toNat) := fun K => by simp [pIndexStr, hc]
      have h_and : iAnd .u8 (c.toNat : Int) 127 = (x : Int) := by
        rw [show (127 : Int) = ((127 : Nat) : Int) from rfl, iAnd_u8 _ _ hc256 (by omega), show (127 : Nat) = 2 ^ 7 - 1 from rfl, Nat.and_two_pow_sub_one_eq_mod, hx]
      have h_wr : IntKind.u64.wrap (x : Int) = (x : Int) := by rw [wr_u64]; omega
      have h_mul : IntKind.i64.wrap (7 * (t : Int)) = (e : Int) := by rw [wrap_i64 (by omega)]; omega
      have h_next : IntKind.i64.wrap ((t : Int) + 1) = ((t + 1 : Nat) : Int) := by rw [wrap_i64 (by omega)]; omega
      have hlI : ¬ (r.length : Int) ≤ (t : Int) := by omega
      have ht10 : ¬ (t : Int) = 10 := by omega
      by_cases hbad : k = 0 ∧ 1 < c.toNat
      · rw [if_pos hbad] at he
        obtain rfl : t = 9 := by omega
        have h1c : (1 : Int) < (c.toNat : Int) := by omega
        have hlI9 : (9 : Int) < (r.length : Int) := by omega
        have hlI8 : ¬ (r.length : Int) ≤ 9 := by omega
        have hidx9 : ∀ K, pIndexStr (.str r) (.int .i64 9) K = K (.int .u8 c.toNat) := hidx
        simp [hpl, hidx9, h1c, hlI8, hlI9]
        exact hfail (by rw [← he])
      · rw [if_neg hbad] at he
        have hlI2 : (t : Int) < (r.length : Int) := by omega
        obtain ⟨y, hy⟩ : ∃ y, y = x * 2 ^ e := ⟨_, rfl⟩
        rw [← hy] at he
        have hpow : 2 ^ e ≤ 2 ^ 63 := Nat.pow_le_pow_right (by omega) (by omega)
        have hyl : y < 18446744073709551616 ∧ y < 2 ^ (7 * (t + 1)) := by
          constructor
          · by_cases h0 : k = 0
            · have : x ≤ 1 := by omega
              have : y ≤ 1 * 2 ^ 63 := by rw [hy]; exact Nat.mul_le_mul this hpow
              omega
            · have : 2 ^ e ≤ 2 ^ 56 := Nat.pow_le_pow_right (by omega) (by omega)
              have : y ≤ 127 * 2 ^ 56 := by rw [hy]; exact Nat.mul_le_mul (by omega) this
              omega
          · rw [hy, show 7 * (t + 1) = 7 + e by omega, Nat.pow_add]
            exact Nat.mul_lt_mul_of_pos_right (by omega) (Nat.two_pow_pos _)
        have hn64 : n < 18446744073709551616 := Nat.lt_of_lt_of_le hn (Nat.le_trans hpow (by decide))
        have hsum : n + y < 2 ^ (7 * (t + 1)) := by
          have h1 : y + 2 ^ e ≤ 2 ^ (7 * (t + 1)) := by
            rw [hy, show 7 * (t + 1) = 7 + e by omega, Nat.pow_add]
            have : (x + 1) * 2 ^ e ≤ 2 ^ 7 * 2 ^ e := Nat.mul_le_mul_right _ (by omega)
            rw [Nat.add_mul, Nat.one_mul] at this
            exact this
          omega
        have h_shl : iShl .u64 (x : Int) (e : Int) = (y : Int) := by
          rw [iShl_u64 _ _ (by omega), ← hy, Nat.mod_eq_of_lt hyl.1]
        obtain ⟨v, hv⟩ : ∃ v, v = n + y := ⟨_, rfl⟩
        have h_or : iOr .u64 (n : Int) (y : Int) = (v : Int) := by
          rw [iOr_u64 _ _ hn64 hyl.1, hy, or_add _ _ _ hn, ← hy, hv]
        rw [← hv] at he hsum
        have hg9 : ¬ ((t : Int) = 9 ∧ (1 : Int) < (c.toNat : Int)) := by omega
        have hb10 : ((t : Int) == 10) = false := by simpa using ht10
        have hb9 : ((t : Int) == 9) = decide (t = 9) := by
          rw [Bool.eq_iff_iff]; simp; omega
        have he0 : ¬ (e : Int) < 0 := by omega
        have h1c : (((t : Int) == 9) = false) ∨ (((t : Int) == 9) = true ∧ decide ((1 : Int) < (c.toNat : Int)) = false) := by
          by_cases h9 : t = 9
          · exact Or.inr ⟨by rw [hb9]; simpa using h9, by simp; omega⟩
          · exact Or.inl (by rw [hb9]; simpa using h9)
        have hlr : t + 1 ≤ r.length := hlt
        have hgoal : pCond (.bool (decide (c.toNat < 128))) (pCond (.bool (decide ((c.toNat = 0 ∧ k ≠ 9) ∨ most < v))) (CallsA Try.prog 33 [.ptr i 0] hh fun v28 h29 => loopPost I (k + 1) Q .ret (frOf [(4, v28)]) h29) (loopPost I (k + 1) Q (.exit 0) (frOf [(0, .ptr i 0), (5, .int .u64 v), (6, .int .i64 (t + 1 : Nat))]) hh)) (loopPost I (k + 1) Q .normal (frOf [(0, .ptr i 0), (1, .int .u64 most), (5, .int .u64 v), (6, .int .i64 (t + 1 : Nat))]) hh) := by
          by_cases hcl : c.toNat < 128
          · rw [if_pos hcl] at he
            by_cases hcond : (c.toNat = 0 ∧ k ≠ 9) ∨ most < v
            · rw [if_pos hcond] at he
              simp only [hcl, hcond, decide_true, pCond_bool, if_true]
              exact hfail he.symm
            · rw [if_neg hcond] at he
              simp only [hcl, hcond, decide_true, decide_false, pCond_bool, if_true, if_false]
              exact h1 v rr (t + 1) he.symm hrr hlr (by omega)
          · rw [if_neg hcl] at he
            simp only [hcl, decide_false, pCond_bool]
            rw [if_neg (by decide), loopPost_normal, ← hI]
            exact ⟨k, by omega, rfl, v, by rw [show 10 - k = t + 1 by omega], by omega, by rwa [show 10 - k = t + 1 by omega], by rw [show 10 - k = t + 1 by omega, hrr]; exact he⟩
        have hclI : decide ((c.toNat : Int) < 128) = decide (c.toNat < 128) := by rw [Bool.eq_iff_iff]; simp; omega
        have hmv : decide ((most : Int) < (v : Int)) = decide (most < v) := by rw [Bool.eq_iff_iff]; simp
        have hz : ((c.toNat : Int) == 0) = decide (c.toNat = 0) := by rw [Bool.eq_iff_iff]; simp
        have ht1 : decide ((1 : Int) < ((t + 1 : Nat) : Int)) = decide (k ≠ 9) := by rw [Bool.eq_iff_iff]; simp; omega
        have hl0 : decide ((r.length : Int) ≤ (t : Int)) = false := by simpa using hlI2
        rcases h1c with h9 | ⟨h9, h1c⟩
        · simp only [pNil_ptr, pFieldAddr_ptr, hpl, pLen_str, binA_int_geq, obind_some, pJoin_eq, hl0, pGuard_bool, if_true, binA_int_eql, hb10, nth_zero, nth_cons, pPick_false, pPick_true, h9, hidx, binA_int_and, h_and, pConv_int, h_wr, binA_int_mul, h_mul, binA_shl, if_neg he0, h_shl, binA_int_or, h_or, binA_int_add, h_next, binA_int_lss, hclI, binA_int_gtr, hmv, hz, ht1, pIdx_eq]
          clear hfail
          by_cases q1 : c.toNat < 128 <;> by_cases q2 : c.toNat = 0 <;> by_cases q3 : k = 9 <;> by_cases q4 : most < v <;> simp [q1, q2, q3, q4] at hgoal ⊢ <;> exact hgoal
        · simp only [pNil_ptr, pFieldAddr_ptr, hpl, pLen_str, binA_int_geq, obind_some, pJoin_eq, hl0, pGuard_bool, if_true, binA_int_eql, hb10, nth_zero, nth_cons, pPick_false, pPick_true, h9, hidx, binA_int_and, h_and, pConv_int, h_wr, binA_int_mul, h_mul, binA_shl, if_neg he0, h_shl, binA_int_or, h_or, binA_int_add, h_next, binA_int_lss, hclI, binA_int_gtr, hmv, hz, ht1, pIdx_eq, h1c]
          clear hfail
          by_cases q1 : c.toNat < 128 <;> by_cases q2 : c.toNat = 0 <;> by_cases q3 : k = 9 <;> by_cases q4 : most < v <;> simp [q1, q2, q3, q4] at hgoal ⊢ <;> exact hgoal


/-- An eye's state behind a reading. -/
def eyeAfter (most : Nat) (r : List UInt8) : Nat × List UInt8 × Bool := match eyeNat most r with | some (m, r') => (m, r', false) | none => (0, [], true)

theorem eye_Nat_does {i most : Nat} {r : List UInt8} {h : AHeap} (p : EyeAt h i r false) (hm : most < 18446744073709551616) :
    CallsA Try.prog 14 [.ptr i 0, .int .u64 most] h (fun v h2 => v = .int .u64 (eyeAfter most r).1 ∧ EyeAt h2 i (eyeAfter most r).2.1 (eyeAfter most r).2.2 ∧ Keeps h h2 (fun k => k = i)) := by
  apply pen_Eye_Nat_wp
  have hpl1 : ∀ K, pLoad none (.ptr i 1) h K = K (.bool false) := fun K => by rw [pLoad_ptr p.2]; simp
  have hpl : ∀ K, pLoad none (.ptr i 0) h K = K (.str r) := fun K => by rw [pLoad_ptr p.2]; simp
  simp [hpl1]
  refine eye_Nat_loop p hm (fun m r' k he hd hk hk10 => ?_) (fun he h2 p2 k2 => ?_)
  · simp [hpl, pSliceStr, bnd]
    rw [pStore_ptr p.2 rfl (by simp)]
    simp only [eyeAfter, he]
    refine ⟨by omega, trivial, ⟨by simpa using p.1, ?_⟩, ⟨Nat.le_refl _, fun j hj hs => by simp [hs]⟩⟩
    simp [hd]
  · simp only [exitQ_ret, eyeAfter, he]
    exact ⟨rfl, p2, k2⟩

theorem eye_Nat_bad {i : Nat} {r : List UInt8} {h : AHeap} {a : AV} (p : EyeAt h i r true) : CallsA Try.prog 14 [.ptr i 0, a] h (fun v h2 => v = .int .u64 (0 : Nat) ∧ h2 = h) := by
  apply pen_Eye_Nat_wp
  have hpl1 : ∀ K, pLoad none (.ptr i 1) h K = K (.bool true) := fun K => by rw [pLoad_ptr p.2]; simp
  simp [hpl1]

/-! ### The law of the bytes -/
theorem eyeGo_some (most : Nat) : ∀ (k : Nat) (r : List UInt8) (n m : Nat) (r' : List UInt8), k ≤ 9 → eyeGo most (k + 1) r n = some (m, r') →
    ∃ q, m = n + q * 2 ^ (7 * (9 - k)) ∧ r = natBytes q ++ r' ∧ m ≤ most ∧ (k ≠ 9 → q ≠ 0) ∧ (k = 0 → q ≤ 1) := by
  intro k
  induction k with
  | zero =>
    intro r n m r' _ h
    cases r with
    | nil => simp [eyeGo] at h
    | cons c r =>
      rw [eyeGo] at h
      split at h
      · cases h
      · rename_i h1
        have h1' : c.toNat ≤ 1 := by
          rcases Nat.lt_or_ge 1 c.toNat with hx | hx
          · exact absurd ⟨rfl, hx⟩ h1
          · exact hx
        have hc : c.toNat < 128 := by omega
        rw [if_pos hc] at h
        split at h
        · cases h
        · rename_i h2
          have hmod : c.toNat % 128 = c.toNat := Nat.mod_eq_of_lt hc
          simp only [Option.some.injEq, Prod.mk.injEq] at h
          obtain ⟨rfl, rfl⟩ := h
          refine ⟨c.toNat, by rw [hmod], by rw [natBytes_lt hc]; simp, by omega, fun _ => by omega, fun _ => by omega⟩
  | succ k ih =>
    intro r n m r' hk h
    cases r with
    | nil => simp [eyeGo] at h
    | cons c r =>
      rw [eyeGo] at h
      rw [if_neg (by omega)] at h
      have hc256 : c.toNat < 256 := c.toNat_lt
      split at h
      · rename_i hc
        have hmod : c.toNat % 128 = c.toNat := Nat.mod_eq_of_lt hc
        split at h
        · cases h
        · rename_i h2
          simp only [Option.some.injEq, Prod.mk.injEq] at h
          obtain ⟨rfl, rfl⟩ := h
          refine ⟨c.toNat, by rw [hmod], by rw [natBytes_lt hc]; simp, by omega, fun _ => by omega, fun _ => by omega⟩
      · rename_i hc
        obtain ⟨q, e1, e2, e3, e4, e5⟩ := ih r _ m r' (by omega) h
        have hq : q ≠ 0 := e4 (by omega)
        have hd : (c.toNat % 128 + 128 * q) / 128 = q := by omega
        have hm : (c.toNat % 128 + 128 * q) % 128 + 128 = c.toNat := by omega
        refine ⟨c.toNat % 128 + 128 * q, ?_, ?_, e3, fun _ => by omega, fun _ => by omega⟩
        · rw [e1, show 7 * (9 - k) = 7 + 7 * (9 - (k + 1)) by omega, Nat.pow_add, Nat.add_mul, ← Nat.add_assoc]
          congr 1
          rw [show (2 : Nat) ^ 7 = 128 from rfl, ← Nat.mul_assoc, Nat.mul_comm q 128]
        · rw [natBytes_ge (by omega), hd, hm, e2]; simp

theorem eyeNat_some {most : Nat} {r : List UInt8} {m : Nat} {r' : List UInt8} (h : eyeNat most r = some (m, r')) : r = natBytes m ++ r' ∧ m ≤ most := by
  obtain ⟨q, e1, e2, e3, _, _⟩ := eyeGo_some most 9 r 0 m r' (by omega) h
  simp at e1
  subst e1
  exact ⟨e2, e3⟩

theorem eyeGo_back (most : Nat) : ∀ (k : Nat) (n q : Nat) (r' : List UInt8), k ≤ 9 → q * 2 ^ (7 * (9 - k)) < 2 ^ 64 → n + q * 2 ^ (7 * (9 - k)) ≤ most → (k ≠ 9 → q ≠ 0) →
    eyeGo most (k + 1) (natBytes q ++ r') n = some (n + q * 2 ^ (7 * (9 - k)), r') := by
  intro k
  induction k with
  | zero =>
    intro n q r' _ hq hm h0
    have hq1 : q ≤ 1 := by
      simp at hq; omega
    rw [natBytes_lt (by omega)]
    have e : (UInt8.ofNat q).toNat = q := by simp; omega
    simp only [List.cons_append, List.nil_append, eyeGo, e, Nat.mod_eq_of_lt (show q < 128 by omega)]
    rw [if_neg (by omega), if_pos (by omega), if_neg (by omega)]
  | succ k ih =>
    intro n q r' hk hq hm h0
    by_cases h128 : q < 128
    · rw [natBytes_lt h128]
      have e : (UInt8.ofNat q).toNat = q := by simp; omega
      simp only [List.cons_append, List.nil_append]
      rw [eyeGo, e, Nat.mod_eq_of_lt (show q < 128 by omega), if_neg (by omega), if_pos h128, if_neg (by omega)]
    · rw [natBytes_ge h128]
      have e : (UInt8.ofNat (q % 128 + 128)).toNat = q % 128 + 128 := by simp; omega
      have em : (q % 128 + 128) % 128 = q % 128 := by omega
      have hsplit : q * 2 ^ (7 * (9 - (k + 1))) = q % 128 * 2 ^ (7 * (9 - (k + 1))) + q / 128 * 2 ^ (7 * (9 - k)) := by
        rw [show 7 * (9 - k) = 7 + 7 * (9 - (k + 1)) by omega, Nat.pow_add, show (2 : Nat) ^ 7 = 128 from rfl, ← Nat.mul_assoc, ← Nat.add_mul]
        congr 1
        omega
      simp only [List.cons_append]
      rw [eyeGo, e, em, if_neg (by omega), if_neg (by omega), ih _ _ _ (by omega) (by omega) (by omega) (fun _ => by omega)]
      rw [hsplit, Nat.add_assoc]

theorem eyeNat_back {most m : Nat} {r' : List UInt8} (hm : m ≤ most) (h64 : m < 18446744073709551616) : eyeNat most (natBytes m ++ r') = some (m, r') := by
  have := eyeGo_back most 9 0 m r' (by omega) (by simpa using h64) (by simpa using hm) (by simp)
  simpa [eyeNat] using this

end Go.Proofs.Ytpoeoekoafpdhaa
