/- heap: all as one plain machine of states; each function is a step of it. -/
import Derived.Test.YtppldbldpphlmaaHeapC
set_option linter.unusedVariables false
set_option linter.unusedSimpArgs false
set_option maxRecDepth 8000
namespace Go.Proofs.Ytppldbldpphlmaa
open Go.Abs

structure Vw where
  site : Int
  cls : Int
  vals : List Nat
  deriving DecidableEq, Inhabited
def Tng.vw (t : Tng) : Vw := ⟨t.site, t.cls, t.vals⟩
def vwOf (ts : Nat → List Tng) : Nat → List Vw := fun k => (ts k).map Tng.vw

theorem vwOf_setL (ts : Nat → List Tng) (k : Nat) (l : List Tng) : vwOf (setL ts k l) = setL (vwOf ts) k (l.map Tng.vw) := by
  funext j; unfold vwOf setL; split <;> rfl
theorem vwOf_len (ts : Nat → List Tng) (k : Nat) : (vwOf ts k).length = (ts k).length := by simp [vwOf]

abbrev St := Nat → List Vw
def findW (W : St) (r : Nat) : Option Vw := if r = 0 ∨ 64 < r then none else (W ((r - 1) / 16))[(r - 1) % 16]?
def cellW (W : St) (r : Nat) (at_ : Int) : Int ⊕ (Vw × Nat) :=
  match findW W r with
  | none => .inl 2
  | some t => if at_ < 0 ∨ (t.vals.length : Int) ≤ at_ then .inl 3 else .inr (t, at_.toNat)
def makeRW (W : St) (thread cells : Int) : Int ⊕ Nat :=
  if thread < 0 ∨ 4 ≤ thread ∨ 16 ≤ (W thread.toNat).length then .inl 4 else if cells < 0 ∨ 16 < cells then .inl 5 else .inr thread.toNat
def makeV (W : St) (thread cells : Int) : AV :=
  match makeRW W thread cells with
  | .inl e => .tup [.int .u64 0, .int .i64 e]
  | .inr k => .tup [.int .u64 ((k * 16 + (W k).length + 1 : Nat) : Int), .int .i64 0]
def makeW (W : St) (thread site cls cells : Int) : St :=
  match makeRW W thread cells with
  | .inl _ => W
  | .inr k => setL W k (W k ++ [⟨site, cls, List.replicate cells.toNat 0⟩])
def setV (W : St) (r : Nat) (at_ : Int) : Int := match cellW W r at_ with | .inl e => e | .inr _ => 0
def setW (W : St) (r : Nat) (at_ : Int) (v : Nat) : St :=
  match cellW W r at_ with
  | .inl _ => W
  | .inr (t, q) => setL W ((r - 1) / 16) ((W ((r - 1) / 16)).set ((r - 1) % 16) { t with vals := t.vals.set q v })
def getV (W : St) (r : Nat) (at_ : Int) : AV :=
  match cellW W r at_ with
  | .inl e => .tup [.int .u64 0, .int .i64 e]
  | .inr (t, q) => .tup [.int .u64 ((t.vals.getD q 0 : Nat) : Int), .int .i64 0]
def madeW (W : St) (th : Int) : Nat := if th < 0 ∨ 4 ≤ th then 0 else (W th.toNat).length
def sizeV (W : St) (r : Nat) : AV := match findW W r with | none => .tup [.int .i64 0, .int .i64 2] | some t => .tup [.int .i64 t.vals.length, .int .i64 0]

theorem findW_of (ts : Nat → List Tng) (r : Nat) : findW (vwOf ts) r = (findR ts r).map Tng.vw := by
  unfold findW findR; split <;> simp [vwOf]
theorem cellW_of (ts : Nat → List Tng) (r : Nat) (at_ : Int) : cellW (vwOf ts) r at_ = match cellR ts r at_ with | .inl e => .inl e | .inr (t, q) => .inr (t.vw, q) := by
  unfold cellW cellR; rw [findW_of]
  cases findR ts r with
  | none => rfl
  | some t =>
    simp only [Option.map_some]
    have e : t.vw.vals = t.vals := rfl
    rw [e]
    split <;> rfl
theorem makeRW_of (ts : Nat → List Tng) (a b : Int) : makeRW (vwOf ts) a b = makeR ts a b := by
  unfold makeRW makeR; rw [vwOf_len]

/-- The heap i stands for the state W. -/
def HpW (h : AHeap) (F : Nat → Prop) (i : Nat) (W : St) (G : AV) : Prop := ∃ ts tk, HpAt h F i ts tk G ∧ vwOf ts = W

theorem HpW.keeps {h h' : AHeap} {F : Nat → Prop} {i : Nat} {W : St} {G : AV} {S : Nat → Prop} (p : HpW h F i W G) (k : Keeps h h' S) (hS : ∀ x, F x → ¬ S x) : HpW h' F i W G := by
  obtain ⟨ts, tk, p, e⟩ := p
  exact ⟨ts, tk, p.keeps k hS, e⟩
theorem HpW.lt {h : AHeap} {F : Nat → Prop} {i : Nat} {W : St} {G : AV} (p : HpW h F i W G) : ∀ x, F x → x < h.next := by
  obtain ⟨ts, tk, p, e⟩ := p
  exact p.lt
theorem HpW.own {h : AHeap} {F : Nat → Prop} {i : Nat} {W : St} {G : AV} (p : HpW h F i W G) : F i := by
  obtain ⟨ts, tk, p, e⟩ := p
  exact p.own
theorem HpW.push {h : AHeap} {F : Nat → Prop} {i : Nat} {W : St} {G : AV} (p : HpW h F i W G) (o : AObj) : HpW (h.push o) F i W G := p.keeps (Keeps.push h o) (fun _ _ h => h)

def st0 : St := fun _ => []

theorem heap_New_W (n : Nat) (hn : n ≤ 8) (h : AHeap) : CallsA Try.prog 13 [.int .i64 n] h (fun v h2 => ∃ i F G, v = .ptr i 0 ∧ HpW h2 F i st0 G ∧ (∀ x, F x → h.next ≤ x) ∧ Keeps h h2 (fun _ => False)) := by
  refine (heap_New_does n hn h).mono ?_
  rintro _ h2 ⟨i, F, G, rfl, p, hF, k⟩
  exact ⟨i, F, G, rfl, ⟨_, _, p, rfl⟩, hF, k⟩

theorem heap_Make_W {h : AHeap} {F : Nat → Prop} {i : Nat} {W : St} {G : AV} (p : HpW h F i W G) (thread site cls cells : Int) :
    CallsA Try.prog 15 [.ptr i 0, .int .i64 thread, .int .i64 site, .int .i64 cls, .int .i64 cells] h (fun v h2 => v = makeV W thread cells ∧ ∃ F2, HpW h2 F2 i (makeW W thread site cls cells) G ∧ Keeps h h2 F ∧ ∀ x, F2 x → F x ∨ h.next ≤ x) := by
  obtain ⟨ts, tk, p, rfl⟩ := p
  refine (heap_Make_does p thread site cls cells).mono ?_
  intro v h2 hm
  unfold makeV makeW
  rw [makeRW_of]
  cases hr : makeR ts thread cells with
  | inl e =>
    rw [hr] at hm
    obtain ⟨rfl, rfl⟩ := hm
    exact ⟨rfl, F, ⟨ts, tk, p, rfl⟩, .refl _ _, fun x hx => Or.inl hx⟩
  | inr k =>
    rw [hr] at hm
    obtain ⟨rfl, tk2, p2, k2⟩ := hm
    refine ⟨by simp only [vwOf_len], _, ⟨_, _, p2, by rw [vwOf_setL]; simp [vwOf, Tng.vw]⟩, k2, fun x hx => ?_⟩
    rcases hx with hx | hx | hx
    · exact Or.inl hx
    · omega
    · omega

theorem heap_Set_W {h : AHeap} {F : Nat → Prop} {i : Nat} {W : St} {G : AV} (p : HpW h F i W G) (r : Nat) (hr : r < 18446744073709551616) (at_ : Int) (v : Nat) :
    CallsA Try.prog 19 [.ptr i 0, .int .u64 r, .int .i64 at_, .int .u64 v] h (fun w h2 => w = .int .i64 (setV W r at_) ∧ HpW h2 F i (setW W r at_ v) G ∧ Keeps h h2 F) := by
  obtain ⟨ts, tk, p, rfl⟩ := p
  refine (heap_Set_does p r hr at_ v).mono ?_
  intro w h2 hm
  unfold setV setW
  rw [cellW_of]
  cases hc : cellR ts r at_ with
  | inl e =>
    rw [hc] at hm
    obtain ⟨rfl, rfl⟩ := hm
    exact ⟨rfl, ⟨ts, tk, p, rfl⟩, .refl _ _⟩
  | inr tq =>
    obtain ⟨t, q⟩ := tq
    rw [hc] at hm
    obtain ⟨rfl, p2, k2⟩ := hm
    refine ⟨rfl, ⟨_, _, p2, ?_⟩, k2⟩
    unfold setT
    rw [vwOf_setL, List.map_set]
    rfl

theorem heap_Get_W {h : AHeap} {F : Nat → Prop} {i : Nat} {W : St} {G : AV} (p : HpW h F i W G) (r : Nat) (hr : r < 18446744073709551616) (at_ : Int) :
    CallsA Try.prog 40 [.ptr i 0, .int .u64 r, .int .i64 at_] h (fun w h2 => w = getV W r at_ ∧ h2 = h) := by
  obtain ⟨ts, tk, p, rfl⟩ := p
  refine (heap_Get_does p r hr at_).mono ?_
  rintro w h2 ⟨rfl, hm⟩
  unfold getV
  rw [cellW_of]
  cases hc : cellR ts r at_ with
  | inl e => rw [hc] at hm; exact ⟨hm, rfl⟩
  | inr tq => obtain ⟨t, q⟩ := tq; rw [hc] at hm; exact ⟨hm, rfl⟩

theorem heap_Made_W {h : AHeap} {F : Nat → Prop} {i : Nat} {W : St} {G : AV} (p : HpW h F i W G) (th : Int) :
    CallsA Try.prog 20 [.ptr i 0, .int .i64 th] h (fun w h2 => w = .int .i64 (madeW W th) ∧ h2 = h) := by
  obtain ⟨ts, tk, p, rfl⟩ := p
  refine (heap_Made_does p th).mono ?_
  rintro w h2 ⟨rfl, rfl⟩
  refine ⟨?_, rfl⟩
  unfold madeW madeR; rw [vwOf_len]

theorem heap_Size_W {h : AHeap} {F : Nat → Prop} {i : Nat} {W : St} {G : AV} (p : HpW h F i W G) (r : Nat) (hr : r < 18446744073709551616) :
    CallsA Try.prog 49 [.ptr i 0, .int .u64 r] h (fun w h2 => w = sizeV W r ∧ h2 = h) := by
  obtain ⟨ts, tk, p, rfl⟩ := p
  refine (heap_Size_does p r hr).mono ?_
  rintro w h2 ⟨rfl, rfl⟩
  refine ⟨?_, rfl⟩
  unfold sizeV; rw [findW_of]
  cases findR ts r <;> rfl

/-! ### What a thing is -/
/-- A slice of numbers of one's own. -/
def SlU (h : AHeap) (a : AV) (vs : List Nat) (lo : Nat) : Prop := (vs = [] ∧ a = .eml) ∨ ∃ id, lo ≤ id ∧ id < h.next ∧ a = .sl id 0 vs.length 1 ∧ h.objs id = some (.row 28 (valCells vs))

theorem SlU.keeps {h h' : AHeap} {a : AV} {vs : List Nat} {lo : Nat} {S : Nat → Prop} (p : SlU h a vs lo) (k : Keeps h h' S) (hS : ∀ x, lo ≤ x → x < h.next → ¬ S x) : SlU h' a vs lo := by
  rcases p with p | ⟨id, p1, p2, p3, p4⟩
  · exact Or.inl p
  · exact Or.inr ⟨id, p1, Nat.lt_of_lt_of_le p2 k.next, p3, by rw [k.objs id p2 (hS id p1 p2)]; exact p4⟩
theorem SlU.len {h : AHeap} {a : AV} {vs : List Nat} {lo : Nat} (p : SlU h a vs lo) (K : AV → Prop) : pLen .slice a K = K (.int .i64 vs.length) := by
  rcases p with ⟨rfl, rfl⟩ | ⟨id, -, -, rfl, -⟩ <;> simp
theorem SlU.get {h : AHeap} {a : AV} {vs : List Nat} {lo : Nat} (p : SlU h a vs lo) {k : Nat} (hk : k < vs.length) (kk : IntKind) {K : AV → Prop} (hK : K (.int .u64 ((vs.getD k 0 : Nat) : Int))) : pIndexAddr (.slice 1) a (.int kk (k : Int)) (fun v => pLoad none v h K) := by
  rcases p with ⟨rfl, -⟩ | ⟨id, -, -, rfl, ho⟩
  · simp at hk
  · simp only [pIndexAddr]
    refine ⟨trivial, by omega, by omega, ?_⟩
    simp only [Int.toNat_natCast, Nat.zero_add, Nat.mul_one]
    rw [pLoad_ptr ho, pCells_none, valCells_get _ _ hk]
    exact hK

theorem chunk_one (l : List AV) : ∀ n, n = l.length → chunk 1 n l = l.map fun x => [x] := by
  induction l with
  | nil => intro n hn; subst hn; rfl
  | cons a l ih => intro n hn; subst hn; simp [chunk, ih _ rfl]

theorem flat_one {α β : Type} (f : α → β) (l : List α) : (l.map ((fun x => [x]) ∘ f)).flatten = l.map f := by
  induction l <;> simp_all

theorem clone_does {h : AHeap} {id : Nat} {vs : List Nat} (ho : h.objs id = some (.row 28 (valCells vs))) (hl : vs.length ≤ 1000) :
    CallsA Try.prog 42 [.sl id 0 vs.length 1] h (fun v h2 => SlU h2 v vs h.next ∧ Keeps h h2 (fun _ => False)) := by
  apply slices_Clone_uint64_uint64_wp
  try simp only [Go.Abs.later]
  have hs : srcElems 1 (.sl id 0 vs.length 1) h = some ((valCells vs).map fun x => [x]) := by
    simp [srcElems, ho, chunk_one (valCells vs) vs.length (by simp)]
  have e : binA CmpK.slice BinOp.eql (.sl id 0 vs.length 1) AV.nils = some (.bool false) := rfl
  rw [e]
  simp only [obind_some, pCond_bool, Bool.false_eq_true, if_false, pBuildSl, pAppend, hs, true_and]
  refine ⟨fun _ => trivial, ?_⟩
  cases vs with
  | nil => exact ⟨Or.inl ⟨rfl, rfl⟩, .refl _ _⟩
  | cons a vs =>
    simp only [valCells, List.map_cons, newSl]
    refine ⟨by simp [bounded, maxLen] at hl ⊢; omega, ?_⟩
    simp only [if_neg (show ¬ (false = true) by simp)]
    refine ⟨Or.inr ⟨h.next, by omega, by simp, by simp, ?_⟩, Keeps.push _ _⟩
    simp [valCells, flat_one]

def thingOk (W : St) (r lo : Nat) (v : AV) (h : AHeap) : Prop :=
  match findW W r with
  | none => v = .tup [.agg [.int .i64 0, .int .i64 0, .nils], .bool false]
  | some t => ∃ c, v = .tup [.agg [.int .i64 t.site, .int .i64 t.cls, c], .bool true] ∧ SlU h c t.vals lo

/-- All things have few cells. -/
def Few (W : St) : Prop := ∀ k, ∀ t ∈ W k, t.vals.length ≤ 16

theorem heap_Thing_W {h : AHeap} {F : Nat → Prop} {i : Nat} {W : St} {G : AV} (p : HpW h F i W G) (hf : Few W) (r : Nat) (hr : r < 18446744073709551616) :
    CallsA Try.prog 16 [.ptr i 0, .int .u64 r] h (fun v h2 => thingOk W r h.next v h2 ∧ Keeps h h2 (fun _ => False)) := by
  obtain ⟨ts, tk, p, rfl⟩ := p
  apply heap_Heap_Thing_wp
  try simp only [Go.Abs.later]
  simp only [pAlloc_eq]
  have kp := Keeps.push h (.row 34 [AV.int IntKind.i64 0, AV.int IntKind.i64 0, AV.nils])
  have p1 := p.keeps kp (fun _ _ h => h)
  refine (heap_find_does p1 r hr).mono ?_
  rintro _ h2 ⟨rfl, e⟩
  subst e
  unfold thingOk
  rw [findW_of]
  cases hfr : findR ts r with
  | none =>
    simp [tngAV, pBuild, fillA]
    rw [pStore_push (by simp) (by simp)]
    simp
    exact Keeps.push _ _
  | some t =>
    obtain ⟨k, hk, j, hj⟩ : ∃ k, k < 4 ∧ ∃ j : Nat, (ts k)[j]? = some t := by
      unfold findR at hfr
      split at hfr
      · cases hfr
      · exact ⟨_, by omega, _, hfr⟩
    have htm := p1.cells k hk t (List.mem_of_getElem? hj)
    have hl : t.vals.length ≤ 16 := hf k t.vw (by simp only [vwOf, List.mem_map]; exact ⟨t, List.mem_of_getElem? hj, rfl⟩)
    simp [tngAV, Tng.cells]
    refine (clone_does htm.2 (by omega)).mono ?_
    rintro c h3 ⟨hc, k3⟩
    simp [pBuild, fillA, AV.cells, AV.fits]
    have hfit : c.fits = true ∧ c.cells = [c] := by
      rcases hc with ⟨-, rfl⟩ | ⟨id, -, -, rfl, -⟩ <;> exact ⟨rfl, rfl⟩
    simp only [AV.cells, AV.fits] at hfit
    simp [hfit.1, hfit.2]
    have hr3 : h3.objs h.next = some (.row 34 [AV.int IntKind.i64 0, AV.int IntKind.i64 0, AV.nils]) := by
      rw [k3.objs h.next (by simp) (fun h => h)]; simp
    simp only [pStore, hr3]
    simp
    rw [pLoad_ptr (ty := 34) (cs := [AV.int .i64 t.site, AV.int .i64 t.cls, c]) (by simp)]
    simp
    have hn3 := k3.next
    simp only [AHeap.push_next] at hn3
    refine ⟨⟨c, ⟨rfl, rfl, rfl⟩, ?_⟩, ?_⟩
    · rcases hc with hc | ⟨id, c1, c2, c3, c4⟩
      · exact Or.inl hc
      · refine Or.inr ⟨id, by simp at c1; omega, c2, c3, ?_⟩
        simp only [AHeap.put_objs]
        rw [if_neg (by simp at c1; omega)]
        exact c4
    · refine (kp.trans k3 (fun _ _ h => h)).trans (Keeps.put h3 h.next _) (fun x hx e => ?_)
      omega

end Go.Proofs.Ytppldbldpphlmaa
