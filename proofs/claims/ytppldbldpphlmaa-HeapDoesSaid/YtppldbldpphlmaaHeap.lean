/- heap: what making, finding, reading and writing things do, in plain words. -/
import Derived.Test.YtppldbldpphlmaaVcH
import Derived.Test.YtppldbldpphlmaaTypes
set_option linter.unusedVariables false
set_option linter.unusedSimpArgs false
set_option maxRecDepth 8000
namespace Go.Proofs.Ytppldbldpphlmaa
open Go.Abs

structure Tng where
  site : Int
  cls : Int
  id : Nat
  vals : List Nat

def Tng.cells (t : Tng) : List AV := [.int .i64 t.site, .int .i64 t.cls, .sl t.id 0 t.vals.length 1]
def valCells (vs : List Nat) : List AV := vs.map fun v : Nat => .int .u64 (v : Int)
/-- A thread's things, as the heap's cell has them. -/
def madeAV (ts : List Tng) (g : Nat) : AV := match ts with | [] => .nils | _ => .gsl g 3 (ts.map Tng.cells)

/-- The heap i; F: the objects that it owns; ts: each thread's things. -/
structure HpAt (h : AHeap) (F : Nat → Prop) (i : Nat) (ts : Nat → List Tng) (tk : Nat → Nat) (G : AV) : Prop where
  own : F i
  lt : ∀ x, F x → x < h.next
  row : h.objs i = some (.row 84 [G, madeAV (ts 0) (tk 0), madeAV (ts 1) (tk 1), madeAV (ts 2) (tk 2), madeAV (ts 3) (tk 3)])
  tok : ∀ k, k < 4 → ts k ≠ [] → F (tk k) ∧ h.objs (tk k) = some (.tok 34 ((ts k).length * 3))
  tkne : ∀ k l, k < 4 → l < 4 → k ≠ l → ts k ≠ [] → ts l ≠ [] → tk k ≠ tk l
  cells : ∀ k, k < 4 → ∀ t ∈ ts k, F t.id ∧ h.objs t.id = some (.row 28 (valCells t.vals))
  len : ∀ k, k < 4 → (ts k).length ≤ 16
  dist : ∀ (k l a b : Nat) (t u : Tng), k < 4 → l < 4 → (ts k)[a]? = some t → (ts l)[b]? = some u → t.id = u.id → k = l ∧ a = b

theorem HpAt.keeps {h h' : AHeap} {F : Nat → Prop} {i : Nat} {ts : Nat → List Tng} {tk : Nat → Nat} {G : AV} {S : Nat → Prop} (p : HpAt h F i ts tk G) (k : Keeps h h' S) (hS : ∀ x, F x → ¬ S x) : HpAt h' F i ts tk G := by
  have e : ∀ x, F x → h'.objs x = h.objs x := fun x hx => k.objs x (p.lt x hx) (hS x hx)
  exact ⟨p.own, fun x hx => Nat.lt_of_lt_of_le (p.lt x hx) k.next, by rw [e i p.own]; exact p.row, fun j hj hne => ⟨(p.tok j hj hne).1, by rw [e _ (p.tok j hj hne).1]; exact (p.tok j hj hne).2⟩, p.tkne, fun j hj t ht => ⟨(p.cells j hj t ht).1, by rw [e _ (p.cells j hj t ht).1]; exact (p.cells j hj t ht).2⟩, p.len, p.dist⟩

theorem heap_New_does (n : Nat) (hn : n ≤ 8) (h : AHeap) : CallsA Try.prog 13 [.int .i64 n] h (fun v h2 => ∃ i F G, v = .ptr i 0 ∧ HpAt h2 F i (fun _ => []) (fun _ => 0) G ∧ (∀ x, F x → h.next ≤ x) ∧ Keeps h h2 (fun _ => False)) := by
  apply heap_New_wp
  try simp only [Go.Abs.later]
  have e1 : maxA [.int .i64 (n : Int), .int .i64 0] = some (.int .i64 n) := by
    simp only [maxA]; rw [if_neg (by omega)]
  have e2 : minA [.int .i64 (n : Int), .int .i64 8] = some (.int .i64 n) := by
    simp only [minA]
    split
    · have : (n : Int) = 8 := by omega
      rw [this]
    · rfl
  rw [e1, obind_some, e2, obind_some]
  simp only [pMakeSl]
  refine ⟨by omega, by omega, by omega, by omega, rfl, ?_⟩
  simp [pBuild, fillA, AV.cells, AV.fits]
  refine ⟨fun x => x = h.next + 1, ⟨.sl h.next 0 n 1, ⟨rfl, fun x hx => by simp [hx], by simp [madeAV], fun k _ hne => absurd rfl hne, fun k l _ _ _ hne => absurd rfl hne, fun k _ t ht => by simp at ht, fun k _ => by simp, fun k l a b t u _ _ ha => by simp at ha⟩⟩, fun x hx => by omega, ?_⟩
  exact (Keeps.push h _).trans (Keeps.push _ _) (fun _ _ h => h)


def setL {α : Type} (f : Nat → α) (k : Nat) (v : α) : Nat → α := fun j => if j = k then v else f j

def rowOf (G : AV) (ts : Nat → List Tng) (tk : Nat → Nat) : List AV := [G, madeAV (ts 0) (tk 0), madeAV (ts 1) (tk 1), madeAV (ts 2) (tk 2), madeAV (ts 3) (tk 3)]
theorem rowOf_get (G : AV) (ts : Nat → List Tng) (tk : Nat → Nat) {k : Nat} (hk : k < 4) : (rowOf G ts tk)[1 + k]? = some (madeAV (ts k) (tk k)) := by
  match k, hk with
  | 0, _ => rfl
  | 1, _ => rfl
  | 2, _ => rfl
  | 3, _ => rfl
theorem rowOf_set (G : AV) (ts : Nat → List Tng) (tk : Nat → Nat) {k : Nat} (hk : k < 4) (l : List Tng) (g : Nat) : (rowOf G ts tk).set (1 + k) (madeAV l g) = rowOf G (setL ts k l) (setL tk k g) := by
  match k, hk with
  | 0, _ => rfl
  | 1, _ => rfl
  | 2, _ => rfl
  | 3, _ => rfl

theorem madeAV_len (l : List Tng) (g : Nat) (K : AV → Prop) : pLen .slice (madeAV l g) K = K (.int .i64 l.length) := by
  cases l <;> simp [madeAV]

/-- The heap behind a new thing. -/
theorem HpAt.grow {h h2 : AHeap} {F : Nat → Prop} {i : Nat} {ts : Nat → List Tng} {tk : Nat → Nat} {G : AV} (p : HpAt h F i ts tk G) {k : Nat} (hk : k < 4) (t : Tng) (hid : t.id = h.next) (hl : (ts k).length < 16)
    (hn : h2.next = h.next + 2) (hi : h2.objs i = some (.row 84 (rowOf G (setL ts k (ts k ++ [t])) (setL tk k (h.next + 1))))) (ht : h2.objs (h.next + 1) = some (.tok 34 (((ts k).length + 1) * 3))) (hc : h2.objs h.next = some (.row 28 (valCells t.vals)))
    (ho : ∀ x, x < h.next → x ≠ i → (ts k ≠ [] → x ≠ tk k) → h2.objs x = h.objs x) :
    HpAt h2 (fun x => F x ∨ x = h.next ∨ x = h.next + 1) i (setL ts k (ts k ++ [t])) (setL tk k (h.next + 1)) G ∧ Keeps h h2 F := by
  have hil := p.lt i p.own
  refine ⟨⟨Or.inl p.own, fun x hx => ?_, hi, fun j hj hne => ?_, fun j l hj hl' hjl hnj hnl => ?_, fun j hj u hu => ?_, fun j hj => ?_, fun j l a b u v hj hl' ha hb hid' => ?_⟩, ⟨by omega, fun x hx hF => ho x hx (fun e => hF (e ▸ p.own)) (fun hne e => hF (e ▸ (p.tok k hk hne).1))⟩⟩
  · rcases hx with hx | hx | hx
    · have := p.lt x hx; omega
    · omega
    · omega
  · by_cases e : j = k
    · subst e
      simp only [setL, if_true, ht]
      exact ⟨Or.inr (Or.inr trivial), by simp⟩
    · simp only [setL, if_neg e] at hne ⊢
      obtain ⟨t1, t2⟩ := p.tok j hj hne
      refine ⟨Or.inl t1, ?_⟩
      rw [ho _ (p.lt _ t1) (fun ei => by rw [ei, p.row] at t2; cases t2) (fun hne2 => p.tkne j k hj hk e hne hne2)]
      exact t2
  · by_cases ej : j = k
    · subst ej
      have el : ¬ l = j := fun e => hjl e.symm
      simp only [setL, if_true, if_neg el] at hnl ⊢
      have := p.lt _ (p.tok l hl' hnl).1
      omega
    · by_cases el : l = k
      · subst el
        simp only [setL, if_true, if_neg ej] at hnj ⊢
        have := p.lt _ (p.tok j hj hnj).1
        omega
      · simp only [setL, if_neg ej, if_neg el] at hnj hnl ⊢
        exact p.tkne j l hj hl' hjl hnj hnl
  · have old : ∀ j, j < 4 → ∀ u ∈ ts j, (F u.id ∨ u.id = h.next ∨ u.id = h.next + 1) ∧ h2.objs u.id = some (.row 28 (valCells u.vals)) := fun j hj u hu => by
      obtain ⟨t1, t2⟩ := p.cells j hj u hu
      refine ⟨Or.inl t1, ?_⟩
      rw [ho _ (p.lt _ t1) (fun ei => by rw [ei, p.row] at t2; simp at t2) (fun hne e => by rw [e, (p.tok k hk hne).2] at t2; cases t2)]
      exact t2
    by_cases e : j = k
    · subst e
      simp only [setL, if_true, List.mem_append, List.mem_singleton] at hu
      rcases hu with hu | rfl
      · exact old j hj u hu
      · rw [hid]; exact ⟨Or.inr (Or.inl rfl), hc⟩
    · simp only [setL, if_neg e] at hu
      exact old j hj u hu
  · by_cases e : j = k
    · subst e; simp [setL]; omega
    · simp only [setL, if_neg e]; exact p.len j hj
  · have old : ∀ j (a : Nat) (u : Tng), j < 4 → (ts j)[a]? = some u → u.id < h.next := fun j a u hj ha => p.lt _ (p.cells j hj u (List.mem_of_getElem? ha)).1
    have back : ∀ j (a : Nat) (u : Tng), j < 4 → (setL ts k (ts k ++ [t]) j)[a]? = some u → (ts j)[a]? = some u ∨ (j = k ∧ a = (ts k).length ∧ u = t) := by
      intro j a u hj ha
      by_cases e : j = k
      · subst e
        simp only [setL, if_true, List.getElem?_append] at ha
        split at ha
        · exact Or.inl ha
        · rename_i hal
          obtain ⟨hb, rfl⟩ := List.getElem?_eq_some_iff.1 ha
          simp at hb
          exact Or.inr ⟨rfl, by omega, by simp⟩
      · simp only [setL, if_neg e] at ha
        exact Or.inl ha
    rcases back j a u hj ha with h1 | ⟨h1, h2', h3⟩ <;> rcases back l b v hl' hb with k1 | ⟨k1, k2, k3⟩
    · exact p.dist j l a b u v hj hl' h1 k1 hid'
    · have := old j a u hj h1; rw [hid', k3, hid] at this; omega
    · have := old l b v hl' k1; rw [← hid', h3, hid] at this; omega
    · exact ⟨by omega, by omega⟩


theorem madeAV_app (l : List Tng) (t : Tng) (g : Nat) : madeAV (l ++ [t]) g = .gsl g 3 ((l ++ [t]).map Tng.cells) := by cases l <;> rfl

theorem push_old {h : AHeap} {o : AObj} {x : Nat} (hx : x < h.next) : (h.push o).objs x = h.objs x := by simp; omega
theorem push_new (h : AHeap) (o : AObj) : (h.push o).objs h.next = some o := by simp
theorem kill_ne {h : AHeap} {g x : Nat} (hx : x ≠ g) : (h.kill g).objs x = h.objs x := by simp [hx]

theorem append_made {h : AHeap} {F : Nat → Prop} {i : Nat} {ts : Nat → List Tng} {tk : Nat → Nat} {G : AV} (p : HpAt h F i ts tk G) {k : Nat} (hk : k < 4) (t : Tng) (hl : (ts k).length < 16) (o : AObj) :
    ∃ hB : AHeap, hB.next = h.next + 2 ∧ hB.objs (h.next + 1) = some (.tok 34 (((ts k).length + 1) * 3)) ∧ hB.objs h.next = some o ∧ (∀ x, x < h.next → (ts k ≠ [] → x ≠ tk k) → hB.objs x = h.objs x) ∧
      ∀ K : AV → AHeap → Prop, K (madeAV (ts k ++ [t]) (h.next + 1)) hB → pAppend true { e := 34, sz := 3, by_ := 40 } (madeAV (ts k) (tk k)) (.isl 3 [t.cells]) (h.push o) K := by
  by_cases he : ts k = []
  · refine ⟨(h.push o).push (.tok 34 (1 * 3)), by simp, by simp [he], by simp, fun x hx _ => ?_, fun K hK => ?_⟩
    · rw [push_old (by simp; omega), push_old hx]
    · rw [he] at hK ⊢
      simp [pAppend, madeAV, srcElems, newSl]
      refine ⟨by simp [bounded, maxLen], ?_⟩
      simpa [madeAV, Tng.cells] using hK
  · obtain ⟨t1, t2⟩ := p.tok k hk he
    have hlt := p.lt _ t1
    have em : madeAV (ts k) (tk k) = .gsl (tk k) 3 ((ts k).map Tng.cells) := by
      unfold madeAV
      cases hts : ts k with
      | nil => exact absurd hts he
      | cons a l => rfl
    refine ⟨((h.push o).kill (tk k)).push (.tok 34 (((ts k).length + 1) * 3)), by simp, by simp, ?_, fun x hx hne => ?_, fun K hK => ?_⟩
    · rw [push_old (by simp), kill_ne (by omega), push_new]
    · rw [push_old (by simp; omega), kill_ne (hne he), push_old hx]
    · rw [madeAV_app] at hK
      rw [em]
      have ho : (h.push o).objs (tk k) = some (.tok 34 ((ts k).length * 3)) := by
        simp only [AHeap.push_objs]; rw [if_neg (by omega)]; exact t2
      simp only [pAppend, srcElems, if_true, ho]
      refine ⟨trivial, trivial, by simp, by simp [bounded, maxLen]; omega, ?_⟩
      simpa using hK

/-- What making answers: a trap's number, or the thread. -/
def makeR (ts : Nat → List Tng) (thread cells : Int) : Int ⊕ Nat :=
  if thread < 0 ∨ 4 ≤ thread ∨ 16 ≤ (ts thread.toNat).length then .inl 4 else if cells < 0 ∨ 16 < cells then .inl 5 else .inr thread.toNat

theorem heap_Make_does {h : AHeap} {F : Nat → Prop} {i : Nat} {ts : Nat → List Tng} {tk : Nat → Nat} {G : AV} (p : HpAt h F i ts tk G) (thread site cls cells : Int) :
    CallsA Try.prog 15 [.ptr i 0, .int .i64 thread, .int .i64 site, .int .i64 cls, .int .i64 cells] h (fun v h2 =>
      match makeR ts thread cells with
      | .inl e => v = .tup [.int .u64 0, .int .i64 e] ∧ h2 = h
      | .inr k => v = .tup [.int .u64 ((k * 16 + (ts k).length + 1 : Nat) : Int), .int .i64 0] ∧ ∃ tk2, HpAt h2 (fun x => F x ∨ x = h.next ∨ x = h.next + 1) i (setL ts k (ts k ++ [⟨site, cls, h.next, List.replicate cells.toNat 0⟩])) tk2 G ∧ Keeps h h2 F) := by
  apply heap_Heap_Make_wp
  try simp only [Go.Abs.later]
  have hld : ∀ (k : Nat), k < 4 → ∀ K, pLoad none (.ptr i (1 + k)) h K = K (madeAV (ts k) (tk k)) := fun k hk K => by
    rw [pLoad_ptr p.row]
    have := rowOf_get G ts tk hk
    unfold rowOf at this
    simp only [pCells_none]
    rw [this]
  by_cases h1 : thread < 0
  · simp [h1, makeR]
  · by_cases h2 : 4 ≤ thread
    · simp [h1, h2, makeR]
    · obtain ⟨k, rfl⟩ : ∃ k : Nat, thread = k := ⟨thread.toNat, by omega⟩
      have hk : k < 4 := by omega
      have hix : ∀ K, pIndexAddr (.array 4 1) (.ptr i 1) (.int .i64 (k : Int)) K = K (.ptr i (1 + k)) := fun K => by simp [pIndexAddr]; omega
      by_cases h3 : 16 ≤ (ts k).length
      · have h3' : (16 : Int) ≤ ((ts k).length : Int) := by omega
        have : makeR ts k cells = .inl 4 := by simp [makeR, h3]
        rw [this]
        simp [h1, h2, hix, hld k hk, madeAV_len, h3']
      · have h3' : ¬ (16 : Int) ≤ ((ts k).length : Int) := by omega
        by_cases h4 : cells < 0 ∨ 16 < cells
        · have : makeR ts k cells = .inl 5 := by simp [makeR, h3, hk, h4]; omega
          rw [this]
          by_cases h5 : cells < 0
          · simp [h1, h2, hix, hld k hk, madeAV_len, h3', h5]
          · have h6 : 16 < cells := by omega
            simp [h1, h2, hix, hld k hk, madeAV_len, h3', h5, h6]
        · have : makeR ts k cells = .inr k := by simp [makeR, h3, hk, h4]; omega
          rw [this]
          have h5 : ¬ cells < 0 := by omega
          have h6 : ¬ 16 < cells := by omega
          obtain ⟨n, rfl⟩ : ∃ n : Nat, cells = n := ⟨cells.toNat, by omega⟩
          have hd0 : decide ((k : Int) < 0) = false := by simp
          have hd1 : decide ((4 : Int) ≤ (k : Int)) = false := by simp; omega
          have hd2 : decide ((16 : Int) ≤ ((ts k).length : Int)) = false := by simp; omega
          have hd3 : decide ((n : Int) < 0) = false := by simp
          have hd4 : decide ((16 : Int) < (n : Int)) = false := by simp; omega
          simp only [binA_ptr_eql_nil, obind_some, pJoin_eq, pGuard_bool, if_true, binA_int_lss, hd0, nth_zero, nth_cons, pPick_false, binA_int_geq, hd1, pNil_ptr, pFieldAddr_ptr, Nat.zero_add, hix, hld k hk, madeAV_len, hd2, pCond_bool, Bool.false_eq_true, if_false, hd3, binA_int_gtr, hd4, true_and]
          simp only [pMakeSl]
          refine ⟨by omega, by omega, by omega, by omega, rfl, ?_⟩
          have hil := p.lt i p.own
          have hldA : ∀ o K, pLoad none (.ptr i (1 + k)) (h.push o) K = K (madeAV (ts k) (tk k)) := fun o K => by
            have hr : (h.push o).objs i = some (.row 84 (rowOf G ts tk)) := by simp only [AHeap.push_objs]; rw [if_neg (by omega)]; exact p.row
            rw [pLoad_ptr hr]
            simp only [pCells_none, rowOf_get G ts tk hk]
          have hrep : repC ((n : Int)).toNat [AV.int .u64 0] = valCells (List.replicate n 0) := by simp [repC, valCells]
          rw [hrep]
          obtain ⟨hB, b1, b2, b3, b4, b5⟩ := append_made p hk ⟨site, cls, h.next, List.replicate n 0⟩ (by omega) (.row 28 (valCells (List.replicate n 0)))
          refine ⟨by rw [hldA]; exact ⟨rfl, trivial⟩, ?_⟩
          simp [pBuild, fillA, AV.cells, AV.fits, pBuildSl, fillE]
          simp only [Tng.cells, List.length_replicate] at b5
          refine b5 _ ?_
          have hio : i ≠ tk k ∨ ts k = [] := by
            by_cases he : ts k = []
            · exact Or.inr he
            · left
              rintro rfl
              have := (p.tok k hk he).2
              rw [p.row] at this; cases this
          have hBi : hB.objs i = some (.row 84 (rowOf G ts tk)) := by
            rw [b4 i hil (fun hne => hio.resolve_right hne)]; exact p.row
          have hlf : (madeAV (ts k ++ [⟨site, cls, h.next, List.replicate n 0⟩]) (h.next + 1)).leafy = true := by rw [madeAV_app]; rfl
          rw [pStore_ptr hBi hlf (by simp [rowOf]; omega), rowOf_set G ts tk hk]
          have hld2 : ∀ K, pLoad none (.ptr i (1 + k)) (hB.put i (.row 84 (rowOf G (setL ts k (ts k ++ [⟨site, cls, h.next, List.replicate n 0⟩])) (setL tk k (h.next + 1))))) K = K (madeAV (ts k ++ [⟨site, cls, h.next, List.replicate n 0⟩]) (h.next + 1)) := fun K => by
            rw [pLoad_ptr (ty := 84) (cs := rowOf G (setL ts k (ts k ++ [⟨site, cls, h.next, List.replicate n 0⟩])) (setL tk k (h.next + 1))) (by simp)]
            simp only [pCells_none, rowOf_get _ _ _ hk]
            simp [setL]
          have ew : IntKind.i64.wrap ((k : Int) * 16) = (k : Int) * 16 := wrap_i64 (by omega)
          have ew2 : IntKind.i64.wrap ((k : Int) * 16 + (((ts k ++ [⟨site, cls, h.next, List.replicate n 0⟩] : List Tng)).length : Int)) = (k : Int) * 16 + ((ts k).length : Int) + 1 := by
            rw [wrap_i64 (by simp; omega)]; simp; omega
          have ew3 : IntKind.u64.wrap ((k : Int) * 16 + ((ts k).length : Int) + 1) = (k : Int) * 16 + ((ts k).length : Int) + 1 := by rw [wr_u64]; omega
          rw [hld2, madeAV_len]
          simp only [binA_int_add, obind_some, ew, ew2, pConv_int, ew3, true_and]
          have hg := p.grow (h2 := hB.put i (.row 84 (rowOf G (setL ts k (ts k ++ [⟨site, cls, h.next, List.replicate n 0⟩])) (setL tk k (h.next + 1))))) hk ⟨site, cls, h.next, List.replicate n 0⟩ rfl (by omega) (by simpa using b1) (by simp) (by simp only [AHeap.put_objs]; rw [if_neg (by omega)]; exact b2) (by simp only [AHeap.put_objs]; rw [if_neg (by omega)]; exact b3) (fun x hx hxi hxt => by simp only [AHeap.put_objs]; rw [if_neg hxi]; exact b4 x hx hxt)
          exact ⟨⟨_, hg.1⟩, hg.2⟩

end Go.Proofs.Ytppldbldpphlmaa
