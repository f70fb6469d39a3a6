/- heap: writing and reading cells, what was made, sizes; the sample at work. -/
import Derived.Test.YtppldbldpphlmaaHeapB
set_option linter.unusedVariables false
set_option linter.unusedSimpArgs false
set_option maxRecDepth 8000
namespace Go.Proofs.Ytppldbldpphlmaa
open Go.Abs

theorem map_set_same {α β : Type} (f : α → β) {l : List α} {j : Nat} {t u : α} (ht : l[j]? = some t) (hu : f u = f t) : (l.set j u).map f = l.map f := by
  apply List.ext_getElem?
  intro a
  simp only [List.getElem?_map, List.getElem?_set]
  split
  · rename_i e; subst e
    split
    · rw [ht]; simp [hu]
    · rename_i hl; rw [List.getElem?_eq_none (by omega)] at ht; cases ht
  · rfl

theorem madeAV_set {l : List Tng} {j : Nat} {t u : Tng} (ht : l[j]? = some t) (hu : u.cells = t.cells) (g : Nat) : madeAV (l.set j u) g = madeAV l g := by
  have hm := map_set_same Tng.cells ht hu
  cases l with
  | nil => simp at ht
  | cons a l =>
    cases j with
    | zero => simpa [madeAV] using hm
    | succ j => simpa [madeAV] using hm

/-- The heap behind a thing's turned cells. -/
theorem HpAt.turn {h : AHeap} {F : Nat → Prop} {i : Nat} {ts : Nat → List Tng} {tk : Nat → Nat} {G : AV} (p : HpAt h F i ts tk G) {k j : Nat} {t : Tng} (hk : k < 4) (ht : (ts k)[j]? = some t) (vs : List Nat) (hv : vs.length = t.vals.length) :
    HpAt (h.put t.id (.row 28 (valCells vs))) F i (setL ts k ((ts k).set j { t with vals := vs })) tk G := by
  have htm := p.cells k hk t (List.mem_of_getElem? ht)
  have hi : i ≠ t.id := by
    intro e; have := htm.2; rw [← e, p.row] at this; cases this
  have hjl : j < (ts k).length := (List.getElem?_eq_some_iff.1 ht).1
  have hlen : ∀ l, (setL ts k ((ts k).set j { t with vals := vs }) l).length = (ts l).length := by
    intro l; unfold setL; split
    · rename_i e; subst e; simp
    · rfl
  have hne : ∀ l, setL ts k ((ts k).set j { t with vals := vs }) l ≠ [] ↔ ts l ≠ [] := by
    intro l; rw [← List.length_pos_iff, ← List.length_pos_iff, hlen]
  have hm : ∀ l, madeAV (setL ts k ((ts k).set j { t with vals := vs }) l) (tk l) = madeAV (ts l) (tk l) := by
    intro l; unfold setL; split
    · rename_i e; subst e; exact madeAV_set ht (by simp [Tng.cells, hv]) _
    · rfl
  have back : ∀ l (a : Nat) (u : Tng), (setL ts k ((ts k).set j { t with vals := vs }) l)[a]? = some u → ∃ u0, (ts l)[a]? = some u0 ∧ u.id = u0.id ∧ ((l = k ∧ a = j ∧ u = { t with vals := vs }) ∨ (¬ (l = k ∧ a = j) ∧ u = u0)) := by
    intro l a u ha
    unfold setL at ha
    split at ha
    · rename_i e; subst e
      rw [List.getElem?_set] at ha
      split at ha
      · rename_i e; subst e
        cases ha
        exact ⟨t, ht, rfl, Or.inl ⟨rfl, rfl, rfl⟩⟩
      · rename_i e; exact ⟨u, ha, rfl, Or.inr ⟨fun x => e x.2.symm, rfl⟩⟩
    · rename_i e; exact ⟨u, ha, rfl, Or.inr ⟨fun x => e x.1, rfl⟩⟩
  refine ⟨p.own, p.lt, ?_, fun l hl hn => ?_, fun l m hl hm' hlm h1 h2 => p.tkne l m hl hm' hlm ((hne l).1 h1) ((hne m).1 h2), fun l hl u hu => ?_, fun l hl => by rw [hlen]; exact p.len l hl, fun l m a b u v hl hm' ha hb hid => ?_⟩
  · simp only [AHeap.put_objs, if_neg hi, hm]; exact p.row
  · obtain ⟨t1, t2⟩ := p.tok l hl ((hne l).1 hn)
    refine ⟨t1, ?_⟩
    rw [hlen]
    simp only [AHeap.put_objs]
    rw [if_neg]
    · exact t2
    · intro e; rw [e, htm.2] at t2; cases t2
  · obtain ⟨a, ha⟩ := List.mem_iff_getElem?.1 hu
    obtain ⟨u0, h1, h2, h3⟩ := back l a u ha
    have hu0 := p.cells l hl u0 (List.mem_of_getElem? h1)
    rcases h3 with ⟨rfl, rfl, rfl⟩ | ⟨h3, rfl⟩
    · exact ⟨htm.1, by simp⟩
    · refine ⟨hu0.1, ?_⟩
      simp only [AHeap.put_objs]
      rw [if_neg]
      · exact hu0.2
      · intro e; exact h3 (p.dist l k a j u t hl hk h1 ht e)
  · obtain ⟨u0, h1, h2, _⟩ := back l a u ha
    obtain ⟨v0, k1, k2, _⟩ := back m b v hb
    exact p.dist l m a b u0 v0 hl hm' h1 k1 (by rw [← h2, ← k2, hid])

theorem cellR_inr {ts : Nat → List Tng} {r : Nat} {at_ : Int} {t : Tng} {q : Nat} (h : cellR ts r at_ = .inr (t, q)) : (r - 1) / 16 < 4 ∧ (ts ((r - 1) / 16))[(r - 1) % 16]? = some t ∧ q < t.vals.length ∧ at_ = q ∧ 1 ≤ r ∧ r ≤ 64 := by
  unfold cellR at h
  cases hf : findR ts r with
  | none => rw [hf] at h; cases h
  | some u =>
    rw [hf] at h
    simp only at h
    split at h
    · cases h
    · rename_i hn
      cases h
      unfold findR at hf
      split at hf
      · cases hf
      · exact ⟨by omega, hf, by omega, by omega, by omega, by omega⟩
theorem cellR_inl {ts : Nat → List Tng} {r : Nat} {at_ : Int} {e : Int} (h : cellR ts r at_ = .inl e) : e = 2 ∨ e = 3 := by
  unfold cellR at h
  cases hf : findR ts r with
  | none => rw [hf] at h; cases h; exact Or.inl rfl
  | some u =>
    rw [hf] at h
    simp only at h
    split at h
    · cases h; exact Or.inr rfl
    · cases h

def setT (ts : Nat → List Tng) (r : Nat) (t : Tng) (q v : Nat) : Nat → List Tng := setL ts ((r - 1) / 16) ((ts ((r - 1) / 16)).set ((r - 1) % 16) { t with vals := t.vals.set q v })

theorem valCells_set (vs : List Nat) (q v : Nat) : (valCells vs).set q (.int .u64 (v : Int)) = valCells (vs.set q v) := by simp [valCells, List.map_set]
@[simp] theorem valCells_length (vs : List Nat) : (valCells vs).length = vs.length := by simp [valCells]
theorem valCells_get (vs : List Nat) (q : Nat) (hq : q < vs.length) : (valCells vs)[q]? = some (.int .u64 ((vs.getD q 0 : Nat) : Int)) := by simp [valCells, hq]

theorem heap_Set_does {h : AHeap} {F : Nat → Prop} {i : Nat} {ts : Nat → List Tng} {tk : Nat → Nat} {G : AV} (p : HpAt h F i ts tk G) (r : Nat) (hr : r < 18446744073709551616) (at_ : Int) (v : Nat) :
    CallsA Try.prog 19 [.ptr i 0, .int .u64 r, .int .i64 at_, .int .u64 v] h (fun w h2 =>
      match cellR ts r at_ with
      | .inl e => w = .int .i64 e ∧ h2 = h
      | .inr (t, q) => w = .int .i64 0 ∧ HpAt h2 F i (setT ts r t q v) tk G ∧ Keeps h h2 F) := by
  apply heap_Heap_Set_wp
  try simp only [Go.Abs.later]
  refine (heap_cell_does p r hr at_).mono ?_
  rintro _ h2 ⟨rfl, e⟩
  subst e
  cases hc : cellR ts r at_ with
  | inl e =>
    rcases cellR_inl hc with rfl | rfl <;> simp [cellAV]
  | inr tq =>
    obtain ⟨t, q⟩ := tq
    obtain ⟨hk, ht, hq, -, -, -⟩ := cellR_inr hc
    have htm := p.cells _ hk t (List.mem_of_getElem? ht)
    simp [cellAV]
    rw [pStore_ptr htm.2 rfl (by simpa using hq), valCells_set]
    refine ⟨p.turn hk ht _ (by simp), (Keeps.put _ _ _).mono ?_⟩
    intro x hx; subst hx; exact htm.1

theorem heap_Get_does {h : AHeap} {F : Nat → Prop} {i : Nat} {ts : Nat → List Tng} {tk : Nat → Nat} {G : AV} (p : HpAt h F i ts tk G) (r : Nat) (hr : r < 18446744073709551616) (at_ : Int) :
    CallsA Try.prog 40 [.ptr i 0, .int .u64 r, .int .i64 at_] h (fun w h2 =>
      h2 = h ∧ match cellR ts r at_ with
      | .inl e => w = .tup [.int .u64 0, .int .i64 e]
      | .inr (t, q) => w = .tup [.int .u64 ((t.vals.getD q 0 : Nat) : Int), .int .i64 0]) := by
  apply heap_Heap_Get_wp
  try simp only [Go.Abs.later]
  refine (heap_cell_does p r hr at_).mono ?_
  rintro _ h2 ⟨rfl, e⟩
  subst e
  cases hc : cellR ts r at_ with
  | inl e =>
    rcases cellR_inl hc with rfl | rfl <;> simp [cellAV]
  | inr tq =>
    obtain ⟨t, q⟩ := tq
    obtain ⟨hk, ht, hq, -, -, -⟩ := cellR_inr hc
    have htm := p.cells _ hk t (List.mem_of_getElem? ht)
    simp [cellAV]
    rw [pLoad_ptr htm.2, pCells_none, valCells_get _ _ hq]
    simp

def madeR (ts : Nat → List Tng) (th : Int) : Nat := if th < 0 ∨ 4 ≤ th then 0 else (ts th.toNat).length

theorem heap_Made_does {h : AHeap} {F : Nat → Prop} {i : Nat} {ts : Nat → List Tng} {tk : Nat → Nat} {G : AV} (p : HpAt h F i ts tk G) (th : Int) :
    CallsA Try.prog 20 [.ptr i 0, .int .i64 th] h (fun w h2 => w = .int .i64 (madeR ts th) ∧ h2 = h) := by
  apply heap_Heap_Made_wp
  try simp only [Go.Abs.later]
  by_cases h1 : th < 0
  · simp [h1, madeR]
  · by_cases h2 : 4 ≤ th
    · simp [h1, h2, madeR]
    · obtain ⟨k, rfl⟩ : ∃ k : Nat, th = k := ⟨th.toNat, by omega⟩
      have hk : k < 4 := by omega
      have hix : ∀ K, pIndexAddr (.array 4 1) (.ptr i 1) (.int .i64 (k : Int)) K = K (.ptr i (1 + k)) := fun K => by simp [pIndexAddr]; omega
      have e : madeR ts k = (ts k).length := by simp [madeR]; omega
      rw [e]
      simp [h1, h2, hix, p.ld hk, madeAV_len]

theorem heap_Size_does {h : AHeap} {F : Nat → Prop} {i : Nat} {ts : Nat → List Tng} {tk : Nat → Nat} {G : AV} (p : HpAt h F i ts tk G) (r : Nat) (hr : r < 18446744073709551616) :
    CallsA Try.prog 49 [.ptr i 0, .int .u64 r] h (fun w h2 => (w = match findR ts r with | none => .tup [.int .i64 0, .int .i64 2] | some t => .tup [.int .i64 t.vals.length, .int .i64 0]) ∧ h2 = h) := by
  apply heap_Heap_Size_wp
  try simp only [Go.Abs.later]
  refine (heap_find_does p r hr).mono ?_
  rintro _ h2 ⟨rfl, e⟩
  subst e
  cases hf : findR ts r with
  | none => simp [tngAV]
  | some t => simp [tngAV, Tng.cells]

theorem heap_alive_does (h : AHeap) : CallsA Try.prog 12 [] h (fun v h2 => v = .bool true ∧ Keeps h h2 (fun _ => False)) := by
  apply padlocklaw17_alive_wp
  try simp only [Go.Abs.later]
  refine (heap_New_does 2 (by omega) h).mono ?_
  rintro _ h2 ⟨i, F, G, rfl, p, hF, k1⟩
  refine (heap_Make_does p 1 5 3 2).mono ?_
  intro w h3 hm
  have em : makeR (fun _ => []) 1 2 = .inr 1 := by simp [makeR]
  rw [em] at hm
  simp only at hm
  obtain ⟨rfl, tk2, p2, k2⟩ := hm
  simp
  refine (heap_Set_does p2 17 (by omega) 1 9).mono ?_
  intro w h4 hm
  have hc : ∃ t, cellR (setL (fun _ => []) 1 ([] ++ [⟨5, 3, h2.next, List.replicate (Int.toNat 2) 0⟩])) 17 1 = .inr (t, 1) ∧ t.vals = [0, 0] := ⟨_, rfl, rfl⟩
  obtain ⟨t, hc, htv⟩ := hc
  rw [hc] at hm
  simp only at hm
  obtain ⟨rfl, p3, k3⟩ := hm
  refine (heap_Get_does p3 17 (by omega) 1).mono ?_
  intro w h5 hm
  obtain ⟨rfl, hm⟩ := hm
  have hc2 : ∃ t', cellR (setT (setL (fun _ => []) 1 ([] ++ [⟨5, 3, h2.next, List.replicate (Int.toNat 2) 0⟩])) 17 t 1 9) 17 1 = .inr (t', 1) ∧ t'.vals = [0, 9] := by
    refine ⟨{ t with vals := t.vals.set 1 9 }, ?_, by simp [htv]⟩
    simp [cellR, findR, setT, setL, htv]
  obtain ⟨t', hc2, htv2⟩ := hc2
  rw [hc2] at hm
  simp only [htv2] at hm
  subst hm
  simp
  refine ((k1.trans k2 fun x hx hxF => ?_).trans k3 fun x hx hxF => ?_)
  · have := hF x hxF; omega
  · rcases hxF with hxF | hxF | hxF
    · have := hF x hxF; omega
    · have := k1.next; omega
    · have := k1.next; omega

end Go.Proofs.Ytppldbldpphlmaa
