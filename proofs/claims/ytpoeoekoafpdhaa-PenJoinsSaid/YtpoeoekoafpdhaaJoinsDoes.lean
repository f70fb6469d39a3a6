/- PenJoins: what is put by one pen is what two put, one behind the other. -/
import Derived.Test.YtpoeoekoafpdhaaPutsDoes
set_option linter.unusedVariables false
set_option linter.unusedSimpArgs false
namespace Go.Proofs.Ytpoeoekoafpdhaa
open Go.Abs

/-- Two pens that share nothing. -/
def Ap (i g j k : Nat) : Prop := i ≠ j ∧ i ≠ k ∧ g ≠ j ∧ g ≠ k
theorem Ap.symm {i g j k : Nat} (h : Ap i g j k) : Ap j k i g := ⟨Ne.symm h.1, Ne.symm h.2.2.1, Ne.symm h.2.1, Ne.symm h.2.2.2⟩
theorem Ap.new {i g j k n g' : Nat} (h : Ap i g j k) (hj : j < n) (hk : k < n) (hg : n ≤ g') : Ap i g' j k := ⟨h.1, h.2.1, by omega, by omega⟩
theorem Ap.frame {i g j k : Nat} {h h' : AHeap} {bs : List UInt8} (a : Ap i g j k) (p : PenAt h j k bs) (kp : Keeps h h' (fun x => x = i ∨ x = g)) : PenAt h' j k bs :=
  p.keeps kp (by rintro (e | e); exact a.1 e.symm; exact a.2.2.1 e.symm) (by rintro (e | e); exact a.2.1 e.symm; exact a.2.2.2 e.symm)

structure Three (h : AHeap) (i g : Nat) (bs : List UInt8) (j g2 : Nat) (cs : List UInt8) (l g3 : Nat) (ds : List UInt8) : Prop where
  p : PenAt h i g bs
  q : PenAt h j g2 cs
  a : PenAt h l g3 ds
  pq : Ap i g j g2
  pa : Ap i g l g3
  qa : Ap j g2 l g3

theorem Three.keep {h h' : AHeap} {i g : Nat} {bs : List UInt8} {j g2 : Nat} {cs : List UInt8} {l g3 : Nat} {ds : List UInt8} (t : Three h i g bs j g2 cs l g3 ds) (k : Keeps h h' (fun _ => False)) : Three h' i g bs j g2 cs l g3 ds :=
  ⟨t.p.keeps k (by simp) (by simp), t.q.keeps k (by simp) (by simp), t.a.keeps k (by simp) (by simp), t.pq, t.pa, t.qa⟩
theorem Three.putP {h h' : AHeap} {i g g' : Nat} {bs bs' : List UInt8} {j g2 : Nat} {cs : List UInt8} {l g3 : Nat} {ds : List UInt8} (t : Three h i g bs j g2 cs l g3 ds) (p : PenAt h' i g' bs') (k : Keeps h h' (fun x => x = i ∨ x = g)) (hg : h.next ≤ g') : Three h' i g' bs' j g2 cs l g3 ds :=
  ⟨p, t.pq.frame t.q k, t.pa.frame t.a k, t.pq.new t.q.1 t.q.2.1 hg, t.pa.new t.a.1 t.a.2.1 hg, t.qa⟩
theorem Three.putQ {h h' : AHeap} {i g g' : Nat} {bs cs' : List UInt8} {j g2 : Nat} {cs : List UInt8} {l g3 : Nat} {ds : List UInt8} (t : Three h i g bs j g2 cs l g3 ds) (p : PenAt h' j g' cs') (k : Keeps h h' (fun x => x = j ∨ x = g2)) (hg : h.next ≤ g') : Three h' i g bs j g' cs' l g3 ds :=
  ⟨t.pq.symm.frame t.p k, p, t.qa.frame t.a k, (t.pq.symm.new t.p.1 t.p.2.1 hg).symm, t.pa, t.qa.new t.a.1 t.a.2.1 hg⟩
theorem Three.putA {h h' : AHeap} {i g g' : Nat} {bs ds' : List UInt8} {j g2 : Nat} {cs : List UInt8} {l g3 : Nat} {ds : List UInt8} (t : Three h i g bs j g2 cs l g3 ds) (p : PenAt h' l g' ds') (k : Keeps h h' (fun x => x = l ∨ x = g3)) (hg : h.next ≤ g') : Three h' i g bs j g2 cs l g' ds' :=
  ⟨t.pa.symm.frame t.p k, t.qa.symm.frame t.q k, p, t.pq, (t.pa.symm.new t.p.1 t.p.2.1 hg).symm, (t.qa.symm.new t.q.1 t.q.2.1 hg).symm⟩

theorem joins_loop1 {a : AV} {xs : List Itm} {b : AV} {i j l : Nat} {h : AHeap} {Q : AExit → Fr → AHeap → Prop} (ha : ItemsAt a xs) (hok : ∀ x ∈ xs, x.ok) (hl : xs.length ≤ 60) (t : Three h i i [] j j [] l l [])
    (hr : ∀ h2, Q .ret (frOf [(4, .bool true)]) h2)
    (hx : ∀ h2 g g3 bs, Three h2 i g bs j j [] l g3 bs → bs.length ≤ 60600 → Q (.exit 0) (frOf [(1, b), (5, .ptr i 0), (6, .ptr j 0), (7, .ptr l 0)]) h2) :
    WP Try.prog 57 (Code.loop c_padlocklaw02_PenJoins_7) (frOf [(1, b), (5, .ptr i 0), (6, .ptr j 0), (7, .ptr l 0), (22, a), (23, .int .i64 xs.length), (24, .int .i64 0)]) h Q := by
  refine WP_loop mixed_ (by kernel_rfl) (fun m fr hh => ∃ (k : Nat) (g g3 : Nat) (bs : List UInt8), m + k = xs.length ∧ fr = frOf [(1, b), (5, .ptr i 0), (6, .ptr j 0), (7, .ptr l 0), (22, a), (23, .int .i64 xs.length), (24, .int .i64 k)] ∧ Three hh i g bs j j [] l g3 bs ∧ bs.length ≤ 1010 * k) xs.length ⟨0, i, l, [], by omega, rfl, t, by simp⟩ ?_
  rintro m fr hh ⟨k, g, g3, bs, hm, rfl, t1, hbl⟩
  apply padlocklaw02_PenJoins_loop7
  generalize hI : (fun (m : Nat) (fr : Fr) (hh : AHeap) => ∃ (k : Nat) (g g3 : Nat) (bs : List UInt8), m + k = xs.length ∧ fr = frOf [(1, b), (5, .ptr i 0), (6, .ptr j 0), (7, .ptr l 0), (22, a), (23, .int .i64 xs.length), (24, .int .i64 k)] ∧ Three hh i g bs j j [] l g3 bs ∧ bs.length ≤ 1010 * k) = I
  simp only [binA_int_lss, obind_some, pCond_bool, decide_eq_true_eq]
  split
  · rename_i hk
    have hkl : k < xs.length := by omega
    have hxk : xs[k]? = some xs[k] := List.getElem?_eq_getElem hkl
    generalize xs[k] = x at hxk
    have hxo : x.ok := hok x (List.mem_of_getElem? hxk)
    refine item_in ha hxk ?_
    intro h6 k6 o6 n6
    simp only [pFieldAddr_ptr, Nat.zero_add, item_s o6, pLen_str, binA_int_gtr, obind_some, pCond_bool, decide_eq_true_eq]
    split
    · exact hr _
    · rename_i hs
      have hs' : x.s.length ≤ 1000 := by omega
      have t6 := t1.keep k6
      obtain ⟨ne1, ne2⟩ := pen_tok_row t6.p o6 (by decide)
      simp only [item_all o6]
      refine (put_does x hxo hs' t6.p (by omega)).mono ?_
      rintro _ h7 ⟨rfl, g7, p7, k7, hg7⟩
      have o7 : h7.objs hh.next = some (.row 46 x.cells) := by rw [k7.objs _ n6 (by simp [ne1, ne2])]; exact o6
      have hbl2 := x.bytes_len hxo hs'
      have t7 := t6.putP p7 k7 hg7
      simp only [item_all o7]
      refine (put_does x hxo hs' t7.a (by omega)).mono ?_
      rintro _ h8 ⟨rfl, g8, p8, k8, hg8⟩
      have t8 := t7.putA p8 k8 hg8
      simp only [binA_int_add, obind_some, wrap1 (show k < 1000000 by omega)]
      rw [loopPost_normal, ← hI]
      exact ⟨m - 1, by omega, k + 1, g7, g8, _, by omega, rfl, t8, by simp; omega⟩
  · exact hx _ _ _ _ t1 (by omega)

theorem joins_loop2 {a : AV} {xs : List Itm} {i j l g g0 : Nat} {bs : List UInt8} {h : AHeap} {Q : AExit → Fr → AHeap → Prop} (ha : ItemsAt a xs) (hok : ∀ x ∈ xs, x.ok) (hl : xs.length ≤ 60) (t : Three h i g bs j j [] l g0 bs) (hb : bs.length ≤ 60600)
    (hr : ∀ h2, Q .ret (frOf [(4, .bool true)]) h2)
    (hx : ∀ h2 g2 g3 cs, Three h2 i g bs j g2 cs l g3 (bs ++ cs) → cs.length ≤ 60600 → Q (.exit 2) (frOf [(5, .ptr i 0), (6, .ptr j 0), (7, .ptr l 0)]) h2) :
    WP Try.prog 57 (Code.loop c_padlocklaw02_PenJoins_15) (frOf [(5, .ptr i 0), (6, .ptr j 0), (7, .ptr l 0), (37, a), (38, .int .i64 xs.length), (39, .int .i64 0)]) h Q := by
  refine WP_loop mixed_ (by kernel_rfl) (fun m fr hh => ∃ (k : Nat) (g2 g3 : Nat) (cs : List UInt8), m + k = xs.length ∧ fr = frOf [(5, .ptr i 0), (6, .ptr j 0), (7, .ptr l 0), (37, a), (38, .int .i64 xs.length), (39, .int .i64 k)] ∧ Three hh i g bs j g2 cs l g3 (bs ++ cs) ∧ cs.length ≤ 1010 * k) xs.length ⟨0, j, g0, [], by omega, rfl, by simpa using t, by simp⟩ ?_
  rintro m fr hh ⟨k, g2, g3, cs, hm, rfl, t1, hbl⟩
  apply padlocklaw02_PenJoins_loop15
  generalize hI : (fun (m : Nat) (fr : Fr) (hh : AHeap) => ∃ (k : Nat) (g2 g3 : Nat) (cs : List UInt8), m + k = xs.length ∧ fr = frOf [(5, .ptr i 0), (6, .ptr j 0), (7, .ptr l 0), (37, a), (38, .int .i64 xs.length), (39, .int .i64 k)] ∧ Three hh i g bs j g2 cs l g3 (bs ++ cs) ∧ cs.length ≤ 1010 * k) = I
  simp only [binA_int_lss, obind_some, pCond_bool, decide_eq_true_eq]
  split
  · rename_i hk
    have hkl : k < xs.length := by omega
    have hxk : xs[k]? = some xs[k] := List.getElem?_eq_getElem hkl
    generalize xs[k] = x at hxk
    have hxo : x.ok := hok x (List.mem_of_getElem? hxk)
    refine item_in ha hxk ?_
    intro h6 k6 o6 n6
    simp only [pFieldAddr_ptr, Nat.zero_add, item_s o6, pLen_str, binA_int_gtr, obind_some, pCond_bool, decide_eq_true_eq]
    split
    · exact hr _
    · rename_i hs
      have hs' : x.s.length ≤ 1000 := by omega
      have t6 := t1.keep k6
      obtain ⟨ne1, ne2⟩ := pen_tok_row t6.q o6 (by decide)
      simp only [item_all o6]
      refine (put_does x hxo hs' t6.q (by omega)).mono ?_
      rintro _ h7 ⟨rfl, g7, p7, k7, hg7⟩
      have o7 : h7.objs hh.next = some (.row 46 x.cells) := by rw [k7.objs _ n6 (by simp [ne1, ne2])]; exact o6
      have hbl2 := x.bytes_len hxo hs'
      have t7 := t6.putQ p7 k7 hg7
      simp only [item_all o7]
      refine (put_does x hxo hs' t7.a (by simp; omega)).mono ?_
      rintro _ h8 ⟨rfl, g8, p8, k8, hg8⟩
      have t8 := t7.putA p8 k8 hg8
      simp only [binA_int_add, obind_some, wrap1 (show k < 1000000 by omega)]
      rw [loopPost_normal, ← hI]
      exact ⟨m - 1, by omega, k + 1, g7, g8, cs ++ x.bytes, by omega, rfl, by simpa using t8, by simp; omega⟩
  · exact hx _ _ _ _ t1 (by omega)

theorem three_new (h : AHeap) : Three (((h.push (.row 27 [.nils])).push (.row 27 [.nils])).push (.row 27 [.nils])) h.next h.next [] (h.push (.row 27 [.nils])).next (h.push (.row 27 [.nils])).next [] ((h.push (.row 27 [.nils])).push (.row 27 [.nils])).next ((h.push (.row 27 [.nils])).push (.row 27 [.nils])).next [] := by
  refine ⟨((pen_new h).keeps (Keeps.push _ _) (by simp) (by simp)).keeps (Keeps.push _ _) (by simp) (by simp), (pen_new _).keeps (Keeps.push _ _) (by simp) (by simp), pen_new _, ?_, ?_, ?_⟩ <;> simp [Ap] <;> omega

theorem PenJoins_does {a b : AV} {xs ys : List Itm} (ha : ItemsAt a xs) (hok : ∀ x ∈ xs, x.ok) (hb : ItemsAt b ys) (hok2 : ∀ x ∈ ys, x.ok) (h : AHeap) : CallsA Try.prog 6 [a, b] h (fun v _ => v = .bool true) := by
  apply padlocklaw02_PenJoins_wp
  refine (alive_does h).mono ?_
  rintro _ h1 ⟨rfl, k1⟩
  simp only [unA_not, obind_some, pCond_bool, Bool.not_true, Bool.false_eq_true, if_false, ha.1, hb.1, binA_int_gtr, pJoin_eq, pGuard_bool, nth_zero, nth_cons, decide_eq_false_iff_not]
  by_cases hl : (60 : Int) < (xs.length : Int)
  · simp [hl]
  · by_cases hl2 : (60 : Int) < (ys.length : Int)
    · simp [hl, hl2]
    · simp only [hl, hl2, not_false_eq_true, if_true, decide_false, pPick_false, pCond_bool, Bool.false_eq_true, if_false, pAlloc_eq, nth_zero, nth_cons]
      refine joins_loop1 ha hok (by omega) (three_new h1) (fun h2 => by simp) (fun h2 g g3 bs t hbs => ?_)
      simp only [exitQ_exit, pIdx_eq, if_true, frOf_cons]
      simp only [Nat.reduceEqDiff, if_false, if_true, hb.1]
      refine joins_loop2 hb hok2 (by omega) t hbs (fun h2 => by simp) (fun h3 g2 g3 cs t2 hcs => ?_)
      simp only [exitQ_exit, pIdx_eq, if_true, frOf_cons]
      simp only [Nat.reduceEqDiff, if_false, if_true]
      refine (pen_Bytes_does t2.a).mono ?_
      rintro _ _ ⟨rfl, rfl⟩
      refine (pen_Bytes_does t2.p).mono ?_
      rintro _ _ ⟨rfl, rfl⟩
      refine (pen_Bytes_does t2.q).mono ?_
      rintro _ _ ⟨rfl, rfl⟩
      rw [binA_str_add (by omega)]
      simp

end Go.Proofs.Ytpoeoekoafpdhaa
