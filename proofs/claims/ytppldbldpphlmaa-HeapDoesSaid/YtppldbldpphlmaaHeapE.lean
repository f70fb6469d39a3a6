/- heap: the document's heap as a list, and how both go together: plain. -/
import Derived.Test.YtppldbldpphlmaaHeapD
set_option linter.unusedVariables false
set_option linter.unusedSimpArgs false
set_option maxRecDepth 8000
namespace Go.Proofs.Ytppldbldpphlmaa
open Go.Abs

structure Rf where
  ref : Nat
  t : Vw
def fnd (M : List Rf) (r : Nat) : Option Nat := M.findIdx? fun t => t.ref == r
def cntM (M : List Rf) (th : Int) : Nat := (M.map Rf.ref).countP fun r => ((((r - 1) / 16 : Nat) : Int) == th)
def lk (M : List Rf) (r : Nat) : Option Vw := (M.find? fun t => t.ref == r).map Rf.t
structure Rel (W : St) (M : List Rf) : Prop where
  rf : ∀ t ∈ M, 1 ≤ t.ref ∧ t.ref ≤ 64
  lk : ∀ r, lk M r = findW W r
  cnt : ∀ k : Nat, k < 4 → cntM M k = (W k).length
  le : ∀ k, k < 4 → (W k).length ≤ 16

theorem Rel.zero : Rel st0 [] := by
  refine ⟨by simp, fun r => ?_, fun k _ => rfl, fun k _ => by simp [st0]⟩
  unfold Go.Proofs.Ytppldbldpphlmaa.lk findW st0
  split <;> simp

theorem findW_push {W : St} {k : Nat} (hk : k < 4) (hl : (W k).length < 16) (v : Vw) (r : Nat) : findW (setL W k (W k ++ [v])) r = if r = k * 16 + (W k).length + 1 then some v else findW W r := by
  unfold findW setL
  by_cases e : r = k * 16 + (W k).length + 1
  · subst e
    rw [if_neg (by omega), if_pos rfl, if_pos (by omega)]
    have : (k * 16 + (W k).length + 1 - 1) % 16 = (W k).length := by omega
    rw [this]
    simp
  · rw [if_neg e]
    by_cases h0 : r = 0 ∨ 64 < r
    · rw [if_pos h0, if_pos h0]
    · rw [if_neg h0, if_neg h0]
      by_cases hq : (r - 1) / 16 = k
      · rw [if_pos hq, hq]
        by_cases hlt : (r - 1) % 16 < (W k).length
        · rw [List.getElem?_append_left hlt]
        · rw [List.getElem?_eq_none (by simp; omega), List.getElem?_eq_none (by omega)]
      · rw [if_neg hq]

theorem Rel.make {W : St} {M : List Rf} (p : Rel W M) {k : Nat} (hk : k < 4) (hl : (W k).length < 16) (v : Vw) : Rel (setL W k (W k ++ [v])) (M ++ [⟨k * 16 + (W k).length + 1, v⟩]) := by
  refine ⟨fun t ht => ?_, fun r => ?_, fun j hj => ?_, fun j hj => ?_⟩
  · rcases List.mem_append.1 ht with ht | ht
    · exact p.rf t ht
    · rcases List.mem_singleton.1 ht with rfl
      simp only; omega
  · rw [findW_push hk hl]
    have hp := p.lk r
    unfold Go.Proofs.Ytppldbldpphlmaa.lk at hp ⊢
    rw [List.find?_append]
    by_cases e : r = k * 16 + (W k).length + 1
    · rw [if_pos e]
      have hn : findW W r = none := by
        unfold findW
        rw [if_neg (by omega)]
        have : (r - 1) / 16 = k := by omega
        rw [this]
        exact List.getElem?_eq_none (by omega)
      rw [hn, Option.map_eq_none_iff] at hp
      rw [hp]
      simp [e]
    · rw [if_neg e, ← hp]
      have : ([⟨k * 16 + (W k).length + 1, v⟩] : List Rf).find? (fun t => t.ref == r) = none := by
        simp; omega
      rw [this, Option.or_none]
  · have hc := p.cnt j hj
    unfold cntM at hc ⊢
    rw [List.map_append, List.countP_append, hc]
    unfold setL
    have hd : (k * 16 + (W k).length + 1 - 1) / 16 = k := by omega
    by_cases e : j = k
    · subst e
      simp [hd]
      omega
    · rw [if_neg e]
      simp [hd]
      omega
  · unfold setL
    split
    · rename_i e; subst e; simp; omega
    · exact p.le j hj

theorem lk_set (r' : Nat) (v : Vw) : ∀ (M : List Rf) (i r : Nat) (t : Rf), fnd M r = some i → M[i]? = some t → lk (M.set i ⟨t.ref, v⟩) r' = if r' = r then some v else lk M r'
  | [], i, r, t, h, _ => by simp [fnd] at h
  | x :: M, i, r, t, h, ht => by
    unfold fnd at h
    rw [List.findIdx?_cons] at h
    by_cases e : x.ref = r
    · simp only [e, beq_self_eq_true, if_true, Option.some.injEq] at h
      subst h
      simp only [List.getElem?_cons_zero, Option.some.injEq] at ht
      subst ht
      simp only [List.set_cons_zero, lk, List.find?_cons]
      by_cases e2 : r' = r
      · subst e2; simp [e]
      · have : (x.ref == r') = false := by simp; omega
        simp [this, e2]
    · simp only [beq_eq_false_iff_ne.2 e, Bool.false_eq_true, if_false, Option.map_eq_some_iff] at h
      obtain ⟨j, hj, rfl⟩ := h
      have ht' : M[j]? = some t := by simpa using ht
      have ih := lk_set r' v M j r t hj ht'
      simp only [List.set_cons_succ, lk, List.find?_cons] at ih ⊢
      by_cases e2 : x.ref = r'
      · have : r' ≠ r := fun h => e (e2.trans h)
        simp [e2, this]
      · simp only [beq_eq_false_iff_ne.2 e2]
        exact ih

theorem findW_set {W : St} {r : Nat} {t : Vw} (h : findW W r = some t) (v : Vw) (r' : Nat) : findW (setL W ((r - 1) / 16) ((W ((r - 1) / 16)).set ((r - 1) % 16) v)) r' = if r' = r then some v else findW W r' := by
  have hb : ¬ (r = 0 ∨ 64 < r) := by
    intro e; unfold findW at h; rw [if_pos e] at h; cases h
  unfold findW at h
  rw [if_neg hb] at h
  have hlt := (List.getElem?_eq_some_iff.1 h).1
  unfold findW setL
  by_cases e : r' = r
  · subst e
    rw [if_neg hb, if_pos rfl, if_pos rfl]
    simp [hlt]
  · rw [if_neg e]
    by_cases h0 : r' = 0 ∨ 64 < r'
    · rw [if_pos h0, if_pos h0]
    · rw [if_neg h0, if_neg h0]
      by_cases hq : (r' - 1) / 16 = (r - 1) / 16
      · rw [if_pos hq, hq, List.getElem?_set, if_neg (by omega)]
      · rw [if_neg hq]

theorem Rel.set {W : St} {M : List Rf} (p : Rel W M) {r i : Nat} {t : Rf} (hi : fnd M r = some i) (ht : M[i]? = some t) (v : Vw) : Rel (setL W ((r - 1) / 16) ((W ((r - 1) / 16)).set ((r - 1) % 16) v)) (M.set i ⟨t.ref, v⟩) := by
  have hlk : Go.Proofs.Ytppldbldpphlmaa.lk M r = some t.t := by
    have h1 : M.find? (fun t => t.ref == r) = some t := by
      have hh := List.findIdx?_eq_some_iff_getElem.1 hi
      obtain ⟨h1, h2, h3⟩ := hh
      have e : M[i] = t := by rw [List.getElem?_eq_getElem h1] at ht; exact Option.some.inj ht
      refine List.find?_eq_some_iff_getElem.2 ⟨by rw [← e]; exact h2, i, h1, e, fun j hj => by simpa using h3 j hj⟩
    unfold Go.Proofs.Ytppldbldpphlmaa.lk
    rw [h1]; rfl
  have hm : (M.set i ⟨t.ref, v⟩).map Rf.ref = M.map Rf.ref := map_set_same Rf.ref ht rfl
  refine ⟨fun u hu => ?_, fun r' => ?_, fun k hk => ?_, fun k hk => ?_⟩
  · have : u.ref ∈ (M.set i ⟨t.ref, v⟩).map Rf.ref := List.mem_map.2 ⟨u, hu, rfl⟩
    rw [hm] at this
    obtain ⟨w, hw, e⟩ := List.mem_map.1 this
    rw [← e]; exact p.rf w hw
  · rw [lk_set r' v M i r t hi ht, findW_set (t := t.t) (by rw [← p.lk]; exact hlk), p.lk]
  · unfold cntM
    rw [hm]
    have := p.cnt k hk
    unfold cntM at this
    rw [this]
    unfold setL
    split
    · rename_i e; subst e; simp
    · rfl
  · unfold setL
    split
    · rename_i e; subst e; simp; exact p.le _ hk
    · exact p.le k hk

end Go.Proofs.Ytppldbldpphlmaa
