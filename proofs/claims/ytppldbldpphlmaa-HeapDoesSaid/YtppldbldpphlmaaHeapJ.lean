/- heap: both heaps, the program's and the document's, go together. -/
import Derived.Test.YtppldbldpphlmaaHeapI
set_option linter.unusedVariables false
set_option linter.unusedSimpArgs false
set_option maxRecDepth 8000
namespace Go.Proofs.Ytppldbldpphlmaa
open Go.Abs

theorem makeRW_inr {W : St} {th c : Int} {k : Nat} (h : makeRW W th c = .inr k) : 0 ≤ th ∧ th < 4 ∧ k = th.toNat ∧ (W k).length < 16 ∧ 0 ≤ c ∧ c ≤ 16 := by
  unfold makeRW at h
  split at h
  · cases h
  · rename_i h1
    split at h
    · cases h
    · rename_i h2
      cases h
      refine ⟨by omega, by omega, rfl, by omega, by omega, by omega⟩
theorem st0_few : Few st0 := fun k t ht => by simp [st0] at ht
theorem makeW_few {W : St} (hf : Few W) (th s cl c : Int) : Few (makeW W th s cl c) := by
  unfold makeW
  cases hr : makeRW W th c with
  | inl e => exact hf
  | inr k =>
    obtain ⟨-, -, -, -, h1, h2⟩ := makeRW_inr hr
    intro j t ht
    simp only [setL] at ht
    split at ht
    · rcases List.mem_append.1 ht with ht | ht
      · exact hf k t ht
      · simp only [List.mem_singleton] at ht
        subst ht; simp; omega
    · exact hf j t ht
theorem cellW_inr {W : St} {r : Nat} {at_ : Int} {t : Vw} {q : Nat} (h : cellW W r at_ = .inr (t, q)) : 1 ≤ r ∧ r ≤ 64 ∧ (W ((r - 1) / 16))[(r - 1) % 16]? = some t ∧ q < t.vals.length ∧ at_ = q := by
  unfold cellW at h
  cases hf : findW W r with
  | none => rw [hf] at h; cases h
  | some u =>
    rw [hf] at h
    simp only at h
    split at h
    · cases h
    · cases h
      unfold findW at hf
      split at hf
      · cases hf
      · exact ⟨by omega, by omega, hf, by omega, by omega⟩
theorem cellW_inl {W : St} {r : Nat} {at_ : Int} {e : Int} (h : cellW W r at_ = .inl e) : e = 2 ∨ e = 3 := by
  unfold cellW at h
  cases hf : findW W r with
  | none => rw [hf] at h; cases h; exact Or.inl rfl
  | some u =>
    rw [hf] at h
    simp only at h
    split at h
    · cases h; exact Or.inr rfl
    · cases h
theorem setW_few {W : St} (hf : Few W) (r : Nat) (at_ : Int) (v : Nat) : Few (setW W r at_ v) := by
  unfold setW
  cases hc : cellW W r at_ with
  | inl e => exact hf
  | inr tq =>
    obtain ⟨t, q⟩ := tq
    obtain ⟨-, -, ht, -, -⟩ := cellW_inr hc
    intro j u hu
    simp only [setL] at hu
    split at hu
    · rcases List.mem_or_eq_of_mem_set hu with hu | rfl
      · exact hf _ u hu
      · have := hf _ t (List.mem_of_getElem? ht)
        simpa using this
    · exact hf j u hu


theorem make_rel {W : St} {M : List Rf} (p : Rel W M) (th site cls n : Int) : match makeRM M th n with
    | .inl e => makeV W th n = .tup [.int .u64 0, .int .i64 e] ∧ makeW W th site cls n = W
    | .inr r => makeV W th n = .tup [.int .u64 (r : Int), .int .i64 0] ∧ Rel (makeW W th site cls n) (M ++ [⟨r, site, cls, List.replicate n.toNat 0⟩]) := by
  unfold makeRM makeV makeW makeRW
  by_cases c1 : th < 0
  · rw [if_pos (Or.inl c1), if_pos (Or.inl c1)]; exact ⟨rfl, rfl⟩
  by_cases c2 : 3 < th
  · rw [if_pos (Or.inr (Or.inl c2)), if_pos (Or.inr (Or.inl (by omega)))]; exact ⟨rfl, rfl⟩
  obtain ⟨k, rfl⟩ : ∃ k : Nat, th = k := ⟨th.toNat, by omega⟩
  have hc := p.cnt k (by omega)
  rw [Int.toNat_natCast, hc]
  by_cases c3 : 16 ≤ (W k).length
  · rw [if_pos (Or.inr (Or.inr c3)), if_pos (Or.inr (Or.inr c3))]; exact ⟨rfl, rfl⟩
  rw [if_neg (show ¬ ((k : Int) < 0 ∨ 3 < (k : Int) ∨ 16 ≤ (W k).length) by omega), if_neg (show ¬ ((k : Int) < 0 ∨ 4 ≤ (k : Int) ∨ 16 ≤ (W k).length) by omega)]
  by_cases c4 : n < 0 ∨ 16 < n
  · simp only [if_pos c4]; first | exact ⟨rfl, rfl⟩ | exact ⟨rfl, trivial⟩ | trivial
  simp only [if_neg c4]
  have e : 16 * k + (W k).length + 1 = k * 16 + (W k).length + 1 := by omega
  refine ⟨by rw [e], ?_⟩
  rw [e]
  exact p.make (by omega) (by omega) _

theorem setV_eq (W : St) (r : Nat) (at_ : Int) : setV W r at_ = cellE (findW W r) at_ := by
  unfold setV cellE cellW
  cases findW W r with
  | none => rfl
  | some t =>
    simp only
    by_cases c : at_ < 0 ∨ (t.vals.length : Int) ≤ at_
    · simp only [if_pos c]
    · simp only [if_neg c]
theorem getV_eq (W : St) (r : Nat) (at_ : Int) : getV W r at_ = getL (findW W r) at_ := by
  unfold getV getL cellW
  cases findW W r with
  | none => rfl
  | some t =>
    simp only
    by_cases c : at_ < 0 ∨ (t.vals.length : Int) ≤ at_
    · simp only [if_pos c]
    · simp only [if_neg c]
theorem set_rel {W : St} {ts : List Rt} (p : Rel W (ts.map Rt.rf)) (r : Nat) (at_ : Int) (v : Nat) : Rel (setW W r at_ v) ((setM ts r at_ v).map Rt.rf) := by
  have hl := p.lk r
  unfold setM
  cases hf : fnd (ts.map Rt.rf) r with
  | none =>
    rw [fnd_none hf] at hl
    have : setW W r at_ v = W := by unfold setW cellW; rw [← hl]
    rw [this]; exact p
  | some i =>
    obtain ⟨t, ht, hr, hk⟩ := fnd_some hf
    rw [hk] at hl
    simp only [ht]
    by_cases c : at_ < 0 ∨ (t.vals.length : Int) ≤ at_
    · rw [if_pos c]
      have : setW W r at_ v = W := by
        unfold setW cellW; rw [← hl]
        simp only
        rw [if_pos (show at_ < 0 ∨ (t.rf.t.vals.length : Int) ≤ at_ from c)]
      rw [this]; exact p
    · rw [if_neg c]
      have : setW W r at_ v = setL W ((r - 1) / 16) ((W ((r - 1) / 16)).set ((r - 1) % 16) { t.rf.t with vals := t.vals.set at_.toNat v }) := by
        unfold setW cellW; rw [← hl]
        simp only
        rw [if_neg (show ¬ (at_ < 0 ∨ (t.rf.t.vals.length : Int) ≤ at_) from c)]
        rfl
      rw [this, List.map_set]
      have ht2 : (ts.map Rt.rf)[i]? = some t.rf := by rw [List.getElem?_map, ht]; rfl
      exact p.set hf ht2 _

theorem cnt_le {W : St} {M : List Rf} (p : Rel W M) (k : Int) : cntM M k ≤ 16 := by
  by_cases h : 0 ≤ k ∧ k ≤ 3
  · obtain ⟨q, rfl⟩ : ∃ q : Nat, k = q := ⟨k.toNat, by omega⟩
    rw [p.cnt q (by omega)]
    exact p.le q (by omega)
  · have : cntM M k = 0 := by
      unfold cntM
      rw [List.countP_eq_zero]
      intro r hr
      obtain ⟨t, ht, rfl⟩ := List.mem_map.1 hr
      have := p.rf t ht
      simp only [beq_iff_eq]
      omega
    omega
theorem made_eq {W : St} {M : List Rf} (p : Rel W M) (k : Int) : cntM M k = madeW W k := by
  unfold madeW
  by_cases h : k < 0 ∨ 4 ≤ k
  · rw [if_pos h]
    unfold cntM
    rw [List.countP_eq_zero]
    intro r hr
    obtain ⟨t, ht, rfl⟩ := List.mem_map.1 hr
    have := p.rf t ht
    simp only [beq_iff_eq]
    omega
  · rw [if_neg h]
    obtain ⟨q, rfl⟩ : ∃ q : Nat, k = q := ⟨k.toNat, by omega⟩
    rw [p.cnt q (by omega)]; rfl

structure Bo (h : AHeap) (F1 F2 : Nat → Prop) (i j g gl : Nat) (W : St) (ts : List Rt) (gs : List Nat) : Prop where
  p1 : HpW h F1 i W (.sl g 0 gs.length 1)
  p2 : RfAt h F2 j ts (.sl gl 0 gs.length 1)
  rel : Rel W (ts.map Rt.rf)
  few : Few W
  hg : h.objs g = some (.row 28 (valCells gs))
  hgl : h.objs gl = some (.row 28 (valCells gs))
  d12 : ∀ x, F1 x → ¬ F2 x
  g1 : ¬ F1 g
  g2 : ¬ F2 g
  l1 : ¬ F1 gl
  l2 : ¬ F2 gl
  gne : g ≠ gl
  gn : g < h.next
  ln : gl < h.next

theorem Bo.keeps {h h' : AHeap} {F1 F2 : Nat → Prop} {i j g gl : Nat} {W : St} {ts : List Rt} {gs : List Nat} (b : Bo h F1 F2 i j g gl W ts gs) (k : Keeps h h' (fun _ => False)) : Bo h' F1 F2 i j g gl W ts gs :=
  ⟨b.p1.keeps k (fun _ _ h => h), b.p2.keeps k (fun _ _ h => h), b.rel, b.few, by rw [k.objs g b.gn (fun h => h)]; exact b.hg, by rw [k.objs gl b.ln (fun h => h)]; exact b.hgl, b.d12, b.g1, b.g2, b.l1, b.l2, b.gne, Nat.lt_of_lt_of_le b.gn k.next, Nat.lt_of_lt_of_le b.ln k.next⟩

/-- The program's heap behind a doing of its own. -/
theorem Bo.one {h h' : AHeap} {F1 F2 F1' : Nat → Prop} {i j g gl : Nat} {W W' : St} {ts : List Rt} {gs : List Nat} (b : Bo h F1 F2 i j g gl W ts gs) (k : Keeps h h' F1) (p : HpW h' F1' i W' (.sl g 0 gs.length 1)) (hF : ∀ x, F1' x → F1 x ∨ h.next ≤ x) :
    RfAt h' F2 j ts (.sl gl 0 gs.length 1) ∧ h'.objs g = some (.row 28 (valCells gs)) ∧ h'.objs gl = some (.row 28 (valCells gs)) ∧ (∀ x, F1' x → ¬ F2 x) ∧ ¬ F1' g ∧ ¬ F1' gl ∧ g < h'.next ∧ gl < h'.next := by
  refine ⟨b.p2.keeps k (fun x hx h1 => b.d12 x h1 hx), by rw [k.objs g b.gn b.g1]; exact b.hg, by rw [k.objs gl b.ln b.l1]; exact b.hgl, fun x hx h2 => ?_, fun hx => ?_, fun hx => ?_, Nat.lt_of_lt_of_le b.gn k.next, Nat.lt_of_lt_of_le b.ln k.next⟩
  · rcases hF x hx with h1 | h1
    · exact b.d12 x h1 h2
    · have := b.p2.lt x h2; omega
  · rcases hF g hx with h1 | h1
    · exact b.g1 h1
    · have := b.gn; omega
  · rcases hF gl hx with h1 | h1
    · exact b.l1 h1
    · have := b.ln; omega

theorem Bo.two {h h2 h3 : AHeap} {F1 F2 F1' F2' : Nat → Prop} {i j g gl : Nat} {W W' : St} {ts ts2 : List Rt} {gs : List Nat} (b : Bo h F1 F2 i j g gl W ts gs) (k1 : Keeps h h2 F1) (p : HpW h2 F1' i W' (.sl g 0 gs.length 1)) (hF1 : ∀ x, F1' x → F1 x ∨ h.next ≤ x)
    (k2 : Keeps h2 h3 F2) (q : RfAt h3 F2' j ts2 (.sl gl 0 gs.length 1)) (hF2 : ∀ x, F2' x → F2 x ∨ h2.next ≤ x) (rel : Rel W' (ts2.map Rt.rf)) (few : Few W') : Bo h3 F1' F2' i j g gl W' ts2 gs := by
  obtain ⟨a1, a2, a3, a4, a5, a6, a7, a8⟩ := b.one k1 p hF1
  refine ⟨p.keeps k2 (fun x hx h2 => a4 x hx h2), q, rel, few, by rw [k2.objs g a7 b.g2]; exact a2, by rw [k2.objs gl a8 b.l2]; exact a3, fun x hx h2 => ?_, a5, fun hx => ?_, a6, fun hx => ?_, b.gne, Nat.lt_of_lt_of_le a7 k2.next, Nat.lt_of_lt_of_le a8 k2.next⟩
  · rcases hF2 x h2 with h1 | h1
    · exact a4 x hx h1
    · have := p.lt x hx; omega
  · rcases hF2 g hx with h1 | h1
    · exact b.g2 h1
    · omega
  · rcases hF2 gl hx with h1 | h1
    · exact b.l2 h1
    · omega

end Go.Proofs.Ytppldbldpphlmaa
