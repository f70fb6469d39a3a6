/- PenPuts: what is put is what the document says. -/
import Derived.Test.YtpoeoekoafpdhaaItems
set_option linter.unusedVariables false
set_option linter.unusedSimpArgs false
namespace Go.Proofs.Ytpoeoekoafpdhaa
open Go.Abs

theorem wrap1 {k : Nat} (hk : k < 1000000) : IntKind.i64.wrap ((k : Int) + 1) = ((k + 1 : Nat) : Int) := by rw [wrap_i64 (by omega)]; omega

/-- A round's own copy of an item. -/
theorem item_in {a : AV} {xs : List Itm} {x : Itm} {k : Nat} {h : AHeap} {K : AV → AHeap → Prop} (ha : ItemsAt a xs) (hx : xs[k]? = some x)
    (hK : ∀ h6, Keeps h h6 (fun _ => False) → h6.objs h.next = some (.row 46 x.cells) → h.next < h6.next → K (.ptr h.next 0) h6) :
    pIndexAddr (.slice 3) a (.int .i64 k) fun v2 => pLoad (some 3) v2 h fun v3 => pAlloc 46 [.int .i64 0, .int .u64 0, .str []] h fun v4 h5 => pStore 3 v4 v3 h5 fun h6 => K v4 h6 := by
  refine ha.2 k x hx _ ?_
  simp only [Itm.cells] at hK ⊢
  simp [pStore]
  refine hK _ ⟨by simp, fun j hj _ => ?_⟩ (by simp) (by simp)
  simp only [AHeap.put_objs, AHeap.push_objs]
  rw [if_neg (by omega), if_neg (by omega)]

theorem item_s {h : AHeap} {o : Nat} {x : Itm} (ho : h.objs o = some (.row 46 x.cells)) (K : AV → Prop) : pLoad none (.ptr o 2) h K = K (.str x.s) := by rw [pLoad_ptr ho]; simp [Itm.cells]
theorem item_k {h : AHeap} {o : Nat} {x : Itm} (ho : h.objs o = some (.row 46 x.cells)) (K : AV → Prop) : pLoad none (.ptr o 0) h K = K (.int .i64 x.k) := by rw [pLoad_ptr ho]; simp [Itm.cells]
theorem item_n {h : AHeap} {o : Nat} {x : Itm} (ho : h.objs o = some (.row 46 x.cells)) (K : AV → Prop) : pLoad none (.ptr o 1) h K = K (.int .u64 x.n) := by rw [pLoad_ptr ho]; simp [Itm.cells]
theorem item_all {h : AHeap} {o : Nat} {x : Itm} (ho : h.objs o = some (.row 46 x.cells)) (K : AV → Prop) : pLoad (some 3) (.ptr o 0) h K = K (.agg x.cells) := by rw [pLoad_ptr ho]; simp [Itm.cells]

theorem pen_tok_row {h : AHeap} {i g o : Nat} {bs : List UInt8} {ty : TypeId} {cs : List AV} (p : PenAt h i g bs) (ho : h.objs o = some (.row ty cs)) (hty : ty ≠ 27) : o ≠ i ∧ o ≠ g := by
  obtain ⟨_, _, ⟨-, rfl, q3⟩ | ⟨-, -, q3, q4⟩⟩ := p
  · refine ⟨?_, ?_⟩ <;> rintro rfl <;> rw [ho] at q3 <;> (injection q3 with q3; injection q3 with q3; exact hty q3)
  · refine ⟨?_, ?_⟩ <;> rintro rfl
    · rw [ho] at q3; injection q3 with q3; injection q3 with q3; exact hty q3
    · rw [ho] at q4; cases q4

theorem penPuts_loop {a : AV} {xs : List Itm} {i : Nat} {h : AHeap} {Q : AExit → Fr → AHeap → Prop} (ha : ItemsAt a xs) (hok : ∀ x ∈ xs, x.ok) (hl : xs.length ≤ 60) (p : PenAt h i i [])
    (hr : ∀ h2, Q .ret (frOf [(2, .bool true)]) h2) (hx : ∀ h2, Q (.exit 0) (frOf []) h2) :
    WP Try.prog 39 (Code.loop c_padlocklaw02_PenPuts_9) (frOf [(3, .ptr i 0), (4, .nilp), (5, .str []), (13, a), (14, .int .i64 xs.length), (15, .int .i64 0)]) h Q := by
  refine WP_loop mixed_ (by kernel_rfl) (fun m fr hh => ∃ (k : Nat) (g : Nat) (bs : List UInt8), m + k = xs.length ∧ fr = frOf [(3, .ptr i 0), (4, .nilp), (5, .str bs), (13, a), (14, .int .i64 xs.length), (15, .int .i64 k)] ∧ PenAt hh i g bs ∧ bs.length ≤ 1010 * k) xs.length ⟨0, i, [], by omega, rfl, p, by simp⟩ ?_
  rintro m fr hh ⟨k, g, bs, hm, rfl, p1, hbl⟩
  apply padlocklaw02_PenPuts_loop9
  generalize hI : (fun (m : Nat) (fr : Fr) (hh : AHeap) => ∃ (k : Nat) (g : Nat) (bs : List UInt8), m + k = xs.length ∧ fr = frOf [(3, .ptr i 0), (4, .nilp), (5, .str bs), (13, a), (14, .int .i64 xs.length), (15, .int .i64 k)] ∧ PenAt hh i g bs ∧ bs.length ≤ 1010 * k) = I
  simp only [binA_int_lss, obind_some, pCond_bool, decide_eq_true_eq]
  split
  · rename_i hk
    have hkl : k < xs.length := by omega
    have hxk : xs[k]? = some xs[k] := List.getElem?_eq_getElem hkl
    generalize xs[k] = x at hxk
    have hxo : x.ok := hok x (List.mem_of_getElem? hxk)
    refine item_in ha hxk ?_
    intro h6 k6 o6 n6
    simp only [pFieldAddr_ptr, Nat.zero_add, item_s o6, pLen_str, binA_int_gtr, obind_some, pCond_bool, decide_eq_true_eq]
    split
    · exact hr _
    · rename_i hs
      have hs' : x.s.length ≤ 1000 := by omega
      have p6 := p1.keeps k6 (by simp) (by simp)
      obtain ⟨ne1, ne2⟩ := pen_tok_row p6 o6 (by decide)
      simp only [item_all o6]
      refine (put_does x hxo hs' p6 (by omega)).mono ?_
      rintro _ h7 ⟨rfl, g7, p7, k7, hg7⟩
      have o7 : h7.objs hh.next = some (.row 46 x.cells) := by rw [k7.objs _ n6 (by simp [ne1, ne2])]; exact o6
      have hbl2 := x.bytes_len hxo hs'
      rw [binA_str_add (by omega)]
      simp only [obind_some, item_all o7]
      refine (put_nil x hxo hs' h7).mono ?_
      rintro _ _ ⟨rfl, rfl⟩
      refine (pen_Bytes_does p7).mono ?_
      rintro _ _ ⟨rfl, rfl⟩
      simp only [binA_str_neq, obind_some, beq_self_eq_true, Bool.not_true, pJoin_eq, pGuard_bool, if_true]
      refine (pen_Bytes_nil _).mono ?_
      rintro _ _ ⟨rfl, rfl⟩
      simp only [binA_str_neq, obind_some, beq_self_eq_true, Bool.not_true, nth_zero, nth_cons, pPick_false, pCond_bool, Bool.false_eq_true, if_false, binA_int_add, wrap1 (show k < 1000000 by omega)]
      rw [loopPost_normal, ← hI]
      exact ⟨m - 1, by omega, k + 1, g7, _, by omega, rfl, p7, by simp; omega⟩
  · exact hx _

theorem PenPuts_does {a : AV} {xs : List Itm} (ha : ItemsAt a xs) (hok : ∀ x ∈ xs, x.ok) (h : AHeap) : CallsA Try.prog 5 [a] h (fun v _ => v = .bool true) := by
  apply padlocklaw02_PenPuts_wp
  refine (alive_does h).mono ?_
  rintro _ h1 ⟨rfl, k1⟩
  simp only [unA_not, obind_some, pCond_bool, Bool.not_true, Bool.false_eq_true, if_false, ha.1, binA_int_gtr, decide_eq_true_eq]
  split
  · trivial
  · simp only [pAlloc_eq]
    refine penPuts_loop ha hok (by omega) (pen_new h1) (fun h2 => ?_) (fun h2 => ?_)
    · simp
    · simp

end Go.Proofs.Ytpoeoekoafpdhaa
