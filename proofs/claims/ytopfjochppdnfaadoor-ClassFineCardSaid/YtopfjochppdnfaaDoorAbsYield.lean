/- Loops over functions: their rounds, step by step. -/
import Derived.Test.YtopfjochppdnfaaDoorAbsFreeze
set_option linter.unusedVariables false
set_option linter.unusedSimpArgs false
namespace Go.Abs
open Go.RowKit

theorem upd_frOf (l : List (Nat × AV)) (p : Nat) (v : AV) : upd (frOf l) p v = frOf ((p, v) :: l) := by
  funext i
  rw [upd_eq]
  rfl

theorem fits_sl (id o n sz : Nat) : (AV.sl id o n sz).fits = true := rfl
theorem cells_sl (id o n sz : Nat) : (AV.sl id o n sz).cells = [.sl id o n sz] := rfl
theorem put_put (h : AHeap) (i : Nat) (a b : AObj) : (h.put i a).put i b = h.put i b := by
  simp only [AHeap.put]
  congr 1
  funext j
  by_cases e : j = i <;> simp [e]
theorem put_self {h : AHeap} {i : Nat} {o : AObj} (ho : h.objs i = some o) : h.put i o = h := by
  cases h with
  | mk objs next =>
    simp only [AHeap.put]
    congr 1
    funext j
    by_cases e : j = i
    · subst e; simp [← ho]
    · simp [e]
theorem push_old {h : AHeap} {i : Nat} (hi : i < h.next) (o : AObj) : (h.push o).objs i = h.objs i := by simp only [AHeap.push_objs]; rw [if_neg (by omega)]
theorem push_new (h : AHeap) (o : AObj) : (h.push o).objs h.next = some o := by simp
theorem put_new (h : AHeap) (i : Nat) (o : AObj) : (h.put i o).objs i = some o := by simp
theorem put_old {h : AHeap} {i j : Nat} (hi : i ≠ j) (o : AObj) : (h.put j o).objs i = h.objs i := by simp only [AHeap.put_objs]; rw [if_neg hi]
theorem kill_old {h : AHeap} {i j : Nat} (hi : i ≠ j) : (h.kill j).objs i = h.objs i := by simp only [AHeap.kill_objs]; rw [if_neg hi]
theorem Keeps.pushS {h hh : AHeap} {S : Nat → Prop} (k : Keeps h hh S) (o : AObj) : Keeps h (hh.push o) S := ⟨Nat.le_trans k.next (Nat.le_succ _), fun j hj hs => by rw [push_old (Nat.lt_of_lt_of_le hj k.next)]; exact k.objs j hj hs⟩
theorem maxA_two (k : IntKind) (a b : Int) : maxA [.int k a, .int k b] = some (.int k (max a b)) := by
  rw [maxA, maxA]
  · congr 2; rw [Int.max_def]; split <;> split <;> omega
theorem minA_two (k : IntKind) (a b : Int) : minA [.int k a, .int k b] = some (.int k (min a b)) := by
  rw [minA, minA]
  · congr 2; rw [Int.min_def]; split <;> split <;> omega
theorem pStore_one {h : AHeap} {ty : TypeId} {z v : AV} (hv : v.leafy = true) (K : AHeap → Prop) : pStore 1 (.ptr h.next 0) v (h.push (.row ty [z])) K = K (h.push (.row ty [v])) := by
  rw [pStore_ptr (ty := ty) (cs := [z]) (by simp) hv (by simp), push_put]; rfl
/-- What is kept of the elder objects is kept where a newer one turns. -/
theorem Keeps.putNew {h hh : AHeap} {S : Nat → Prop} (k : Keeps h hh S) {i : Nat} (hi : h.next ≤ i) (o : AObj) : Keeps h (hh.put i o) S := ⟨k.next, fun j hj hs => by simp only [AHeap.put_objs]; rw [if_neg (by omega)]; exact k.objs j hj hs⟩
theorem Keeps.putS {h hh : AHeap} {S : Nat → Prop} (k : Keeps h hh S) {i : Nat} (hi : S i) (o : AObj) : Keeps h (hh.put i o) S := ⟨k.next, fun j hj hs => by simp only [AHeap.put_objs]; rw [if_neg (by rintro rfl; exact hs hi)]; exact k.objs j hj hs⟩
theorem Keeps.killNew {h hh : AHeap} {S : Nat → Prop} (k : Keeps h hh S) {i : Nat} (hi : h.next ≤ i) : Keeps h (hh.kill i) S := ⟨k.next, fun j hj hs => by simp only [AHeap.kill_objs]; rw [if_neg (by omega)]; exact k.objs j hj hs⟩

section
variable {P : Program}

theorem WP.post {N : Nat} {code : Code} {fr : Fr} {h : AHeap} {Q Q' : AExit → Fr → AHeap → Prop} (hq : ∀ e fr h, Q e fr h → Q' e fr h) (H : WP P N code fr h Q) : WP P N code fr h Q' := H.mono hq

theorem YieldW.mono {id : Nat} {args : List AV} {h : AHeap} {K K' : AV → AHeap → Prop} (hk : ∀ v h, K v h → K' v h) (H : YieldW P id args h K) : YieldW P id args h K' := by
  obtain ⟨N, ps, asn, bd, fr, h1, h2, h3, h4, h5, H⟩ := H
  refine ⟨N, ps, asn, bd, fr, h1, h2, h3, h4, h5, H.mono fun e fr1 hh hq => ?_⟩
  cases e with
  | exit i => exact hq
  | ret => exact hq
  | normal =>
    refine ⟨hq.1, hq.2.mono fun e fr2 h2 hq => ?_⟩
    cases e with
    | normal => exact ⟨hq.1, hk _ _ hq.2⟩
    | exit i => exact ⟨hq.1, hk _ _ hq.2⟩
    | ret => exact ⟨hq.1, hk _ _ hq.2⟩

/-- What is asked behind a round's body. -/
def roundQ (id N : Nat) (ps : Array Tmp) (asn bd : Code) (fr : Fr) (K : AV → AHeap → Prop) : AExit → Fr → AHeap → Prop := fun e _ h2 =>
  h2.objs id = some (.loop .busy none N ps asn bd fr) ∧ match e with
    | .normal => K (.bool true) (h2.put id (.loop .ready none N ps asn bd fr))
    | .exit i => K (.bool false) (h2.put id (.loop .done (some (.exit i)) N ps asn bd fr))
    | .ret => K (.bool false) (h2.put id (.loop .done (some .ret) N ps asn bd fr))

/-- A round. -/
theorem YieldW.go {N id : Nat} {ps : Array Tmp} {asn bd : Code} {fr fr1 : Fr} {args : List AV} {hh : AHeap} {K : AV → AHeap → Prop} (ho : hh.objs id = some (.loop .ready none N ps asn bd fr)) (hl : args.length = ps.size) (hp : (ps.toList.all fun p => Nat.blt p N) = true) (hna : noRF asn = true) (hnb : noRF bd = true)
    (hA : WP P N asn (setPs ps.toList args fr) hh (fun e f h => e = .normal ∧ f = fr1 ∧ h = hh)) (hB : WP P N bd fr1 (hh.put id (.loop .busy none N ps asn bd fr)) (roundQ id N ps asn bd fr K)) : YieldW P id args hh K := by
  refine ⟨N, ps, asn, bd, fr, ho, hl, hp, hna, hnb, hA.mono ?_⟩
  rintro e f h ⟨rfl, rfl, rfl⟩
  refine ⟨ho, hB.mono fun e fr2 h2 hq => ?_⟩
  cases e with
  | normal => exact hq
  | exit i => exact hq
  | ret => exact hq

/-- A loop over a function that has a body. -/
theorem WP_rangeA {N : Nat} {g : Operand} {ps : Array Tmp} {asn bd : Code} {fr : Fr} {h : AHeap} {Q : AExit → Fr → AHeap → Prop} {gf : FuncId} {cap : List AV} (hcall : ∀ as w, (callFunc gf as).run P w = .ok (.enter gf as) w) (hg : aEv fr g = .fn (.func gf) [] cap)
    (H : CallsA P gf (.yld h.next :: cap) (h.push (.loop .ready none N ps asn bd fr)) (fun _ h' => ∃ st pe, h'.objs h.next = some (.loop st pe N ps asn bd fr) ∧ st ≠ .busy ∧ rangePostA Q fr (h'.kill h.next) pe)) :
    WP P N (.rangeFunc g ps asn bd) fr h Q := by
  refine WP_range hg ?_
  rcases H with H | H
  · exact H
  · refine ⟨hcall, fun B c w vs W L => ?_⟩
    obtain ⟨c', u, v, h', w', hr, _⟩ := H B c w vs W L
    rw [hcall] at hr
    cases hr

/-- A call by its contract 'the answer is v0, the heap is as it was', then on. -/
theorem CallsA.go {f : FuncId} {args : List AV} {h : AHeap} {v0 : AV} {K : AV → AHeap → Prop} (H : CallsA P f args h (fun v h2 => v = v0 ∧ h2 = h)) (hk : K v0 h) : CallsA P f args h K := H.mono (by rintro _ _ ⟨rfl, rfl⟩; exact hk)

theorem pCallF_yld (id : Nat) (args : List AV) (h : AHeap) (K : AV → AHeap → Prop) : pCallF P (.yld id) args h K = YieldW P id args h K := rfl
end

end Go.Abs
