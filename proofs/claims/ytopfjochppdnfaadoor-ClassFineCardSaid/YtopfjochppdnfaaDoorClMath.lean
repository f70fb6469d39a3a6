/- Plain: classes of sites that meet; forests; rounds that close a set. -/
import Derived.Test.YtopfjochppdnfaaDoorAbsBits
set_option linter.unusedVariables false
set_option linter.unusedSimpArgs false
namespace Go.Proofs.YtopfjochppdnfaaDoor

/-- Joined by steps. -/
inductive Conn (R : Nat → Nat → Prop) : Nat → Nat → Prop
  | refl (a : Nat) : Conn R a a
  | tail {a b c : Nat} : Conn R a b → R b c → Conn R a c
namespace Conn
variable {R : Nat → Nat → Prop}
theorem one {a b : Nat} (h : R a b) : Conn R a b := (Conn.refl a).tail h
theorem trans {a b c : Nat} (h : Conn R a b) (k : Conn R b c) : Conn R a c := by
  induction k with
  | refl => exact h
  | tail _ r ih => exact ih.tail r
theorem symm (hs : ∀ a b, R a b → R b a) {a b : Nat} (h : Conn R a b) : Conn R b a := by
  induction h with
  | refl => exact .refl _
  | tail _ r ih => exact (one (hs _ _ r)).trans ih
theorem map {R' : Nat → Nat → Prop} (hm : ∀ a b, R a b → Conn R' a b) {a b : Nat} (h : Conn R a b) : Conn R' a b := by
  induction h with
  | refl => exact .refl _
  | tail _ r ih => exact ih.trans (hm _ _ r)
/-- A set that holds all that its members step to holds all that they are joined to. -/
theorem closed {T : Nat → Prop} (hc : ∀ a b, T a → R a b → T b) {a b : Nat} (h : Conn R a b) (ha : T a) : T b := by
  induction h with
  | refl => exact ha
  | tail _ r ih => exact hc _ _ ih r
end Conn

/-- Pairs, as steps. -/
def Prs (P : List (Nat × Nat)) (a b : Nat) : Prop := (a, b) ∈ P ∨ (b, a) ∈ P
theorem Prs.symm {P : List (Nat × Nat)} (a b : Nat) (h : Prs P a b) : Prs P b a := Or.symm h
theorem conn_snoc {P : List (Nat × Nat)} {i j x y : Nat} : Conn (Prs (P ++ [(i, j)])) x y ↔ Conn (Prs P) x y ∨ (Conn (Prs P) x i ∧ Conn (Prs P) j y) ∨ (Conn (Prs P) x j ∧ Conn (Prs P) i y) := by
  have up : ∀ {a b : Nat}, Conn (Prs P) a b → Conn (Prs (P ++ [(i, j)])) a b := fun h => h.map fun a b r => Conn.one (by
    rcases r with r | r
    · exact Or.inl (by simp [r])
    · exact Or.inr (by simp [r]))
  have hij : Conn (Prs (P ++ [(i, j)])) i j := Conn.one (Or.inl (by simp))
  have hji : Conn (Prs (P ++ [(i, j)])) j i := Conn.one (Or.inr (by simp))
  constructor
  · intro h
    induction h with
    | refl => exact Or.inl (.refl _)
    | @tail b c _ r ih =>
      have sy : ∀ {a b : Nat}, Conn (Prs P) a b → Conn (Prs P) b a := fun h => h.symm Prs.symm
      have hr : Prs P b c ∨ (b = i ∧ c = j) ∨ (b = j ∧ c = i) := by
        rcases r with r | r <;> simp only [List.mem_append, List.mem_singleton, Prod.mk.injEq] at r
        · rcases r with r | r
          · exact Or.inl (Or.inl r)
          · exact Or.inr (Or.inl r)
        · rcases r with r | ⟨r1, r2⟩
          · exact Or.inl (Or.inr r)
          · exact Or.inr (Or.inr ⟨r2, r1⟩)
      rcases hr with hr | ⟨rfl, rfl⟩ | ⟨rfl, rfl⟩
      · rcases ih with ih | ⟨h1, h2⟩ | ⟨h1, h2⟩
        · exact Or.inl (ih.tail hr)
        · exact Or.inr (Or.inl ⟨h1, h2.tail hr⟩)
        · exact Or.inr (Or.inr ⟨h1, h2.tail hr⟩)
      · rcases ih with ih | ⟨h1, h2⟩ | ⟨h1, h2⟩
        · exact Or.inr (Or.inl ⟨ih, .refl _⟩)
        · exact Or.inr (Or.inl ⟨h1, .refl _⟩)
        · exact Or.inl h1
      · rcases ih with ih | ⟨h1, h2⟩ | ⟨h1, h2⟩
        · exact Or.inr (Or.inr ⟨ih, .refl _⟩)
        · exact Or.inl h1
        · exact Or.inr (Or.inr ⟨h1, .refl _⟩)
  · rintro (h | ⟨h1, h2⟩ | ⟨h1, h2⟩)
    · exact up h
    · exact ((up h1).trans hij).trans (up h2)
    · exact ((up h1).trans hji).trans (up h2)

/-! Forests -/
def Low (f : List Nat) : Prop := ∀ (k v : Nat), f[k]? = some v → v ≤ k
def root (f : List Nat) (k : Nat) : Nat := if h : f.getD k k < k then root f (f.getD k k) else k
termination_by k

theorem root_step {f : List Nat} {k : Nat} (h : f.getD k k < k) : root f k = root f (f.getD k k) := by
  rw [root, dif_pos h]
theorem root_stop {f : List Nat} {k : Nat} (h : ¬ f.getD k k < k) : root f k = k := by
  rw [root, dif_neg h]
theorem Low.getD {f : List Nat} (h : Low f) (k : Nat) : f.getD k k ≤ k := by
  rw [List.getD_eq_getElem?_getD]
  cases hk : f[k]? with
  | none => simp
  | some v => simpa using h k v hk
theorem root_le {f : List Nat} : ∀ (k : Nat), root f k ≤ k := by
  intro k
  induction k using Nat.strongRecOn with
  | _ k ih =>
    by_cases h : f.getD k k < k
    · rw [root_step h]; have := ih _ h; omega
    · rw [root_stop h]; exact Nat.le_refl _
theorem root_fix {f : List Nat} : ∀ (k : Nat), ¬ f.getD (root f k) (root f k) < root f k := by
  intro k
  induction k using Nat.strongRecOn with
  | _ k ih =>
    by_cases h : f.getD k k < k
    · rw [root_step h]; exact ih _ h
    · rw [root_stop h]; exact h
theorem root_root {f : List Nat} (k : Nat) : root f (root f k) = root f k := root_stop (root_fix k)
theorem root_get {f : List Nat} (hl : Low f) {k : Nat} (hk : root f k < f.length) : f[root f k]? = some (root f k) := by
  have h1 := root_fix (f := f) k
  rw [List.getD_eq_getElem?_getD, List.getElem?_eq_getElem hk] at h1
  have h2 := hl _ _ (List.getElem?_eq_getElem hk)
  simp at h1
  rw [List.getElem?_eq_getElem hk]
  congr 1; omega

theorem getD_set (f : List Nat) (k v j : Nat) (hk : k < f.length) : (f.set k v).getD j j = if j = k then v else f.getD j j := by
  rw [List.getD_eq_getElem?_getD, List.getElem?_set, List.getD_eq_getElem?_getD]
  by_cases e : k = j
  · subst e; simp [hk]
  · rw [if_neg e, if_neg (Ne.symm e)]

theorem Low.set {f : List Nat} (hl : Low f) {k v : Nat} (hv : v ≤ k) : Low (f.set k v) := by
  intro j x hx
  rw [List.getElem?_set] at hx
  split at hx
  · rename_i e
    split at hx
    · cases hx; omega
    · cases hx
  · exact hl j x hx

/-- A path is halved: all roots are as they were. -/
theorem root_halve {f : List Nat} (hl : Low f) {k : Nat} (hk : k < f.length) (h : f.getD k k < k) (j : Nat) : root (f.set k (f.getD (f.getD k k) (f.getD k k))) j = root f j := by
  obtain ⟨g, hg⟩ : ∃ g, g = f.getD (f.getD k k) (f.getD k k) := ⟨_, rfl⟩
  rw [← hg]
  have hgk : g ≤ f.getD k k := hg ▸ hl.getD _
  have hrg : root f k = root f g := by
    rw [root_step h]
    by_cases e : f.getD (f.getD k k) (f.getD k k) < f.getD k k
    · rw [root_step e, ← hg]
    · have : g = f.getD k k := by omega
      rw [this]
  induction j using Nat.strongRecOn with
  | _ j ih =>
    by_cases e : j = k
    · subst e
      have h1 : (f.set j g).getD j j = g := by rw [getD_set _ _ _ _ hk, if_pos rfl]
      rw [root_step (by rw [h1]; omega), h1, ih g (by omega), ← hrg]
    · have h1 : (f.set k g).getD j j = f.getD j j := by rw [getD_set _ _ _ _ hk, if_neg e]
      by_cases h2 : f.getD j j < j
      · rw [root_step (by rw [h1]; exact h2), h1, ih _ h2, ← root_step h2]
      · rw [root_stop (by rw [h1]; exact h2), root_stop h2]

/-- Two roots are linked. -/
theorem root_link {f : List Nat} (hl : Low f) {a b : Nat} (ha : a < f.length) (hb : b < f.length) (ra : root f a = a) (rb : root f b = b) (x : Nat) : root (f.set (max a b) (min a b)) x = if root f x = max a b then min a b else root f x := by
  have hM : max a b < f.length := by omega
  have rM : root f (max a b) = max a b := by
    rcases Nat.le_total a b with h | h
    · rw [Nat.max_eq_right h, rb]
    · rw [Nat.max_eq_left h, ra]
  have rm : root f (min a b) = min a b := by
    rcases Nat.le_total a b with h | h
    · rw [Nat.min_eq_left h, ra]
    · rw [Nat.min_eq_right h, rb]
  have hmM : min a b ≤ max a b := by omega
  generalize max a b = M at *
  generalize min a b = m at *
  have fM : ¬ f.getD M M < M := by have := root_fix (f := f) M; rwa [rM] at this
  have fm : ¬ f.getD m m < m := by have := root_fix (f := f) m; rwa [rm] at this
  induction x using Nat.strongRecOn with
  | _ x ih =>
    by_cases e : x = M
    · subst e
      rw [rM, if_pos rfl]
      have h1 : (f.set x m).getD x x = m := by rw [getD_set _ _ _ _ hM, if_pos rfl]
      rcases Nat.lt_or_eq_of_le hmM with hlt | heq
      · rw [root_step (by rw [h1]; exact hlt), h1, ih m hlt, rm, if_neg (by omega)]
      · rw [root_stop (by rw [h1]; omega)]; exact heq.symm
    · have h1 : (f.set M m).getD x x = f.getD x x := by rw [getD_set _ _ _ _ hM, if_neg e]
      by_cases h2 : f.getD x x < x
      · rw [root_step (by rw [h1]; exact h2), h1, ih _ h2, ← root_step h2]
      · rw [root_stop (by rw [h1]; exact h2), root_stop h2, if_neg e]

/-- What the forest says is what the pairs say. -/
def Says (f : List Nat) (P : List (Nat × Nat)) : Prop := Low f ∧ ∀ x y, root f x = root f y ↔ Conn (Prs P) x y
theorem Says.start (n : Nat) : Says (List.range n) [] := by
  have hl : Low (List.range n) := fun k v h => by
    have := List.getElem?_eq_some_iff.1 h
    obtain ⟨h1, h2⟩ := this
    simp at h2; omega
  have hr : ∀ x, root (List.range n) x = x := fun x => root_stop (by
    rw [List.getD_eq_getElem?_getD]
    by_cases h : x < n <;> simp [h])
  refine ⟨hl, fun x y => ?_⟩
  rw [hr, hr]
  constructor
  · rintro rfl; exact .refl _
  · intro h
    induction h with
    | refl => rfl
    | tail _ r ih => rcases r with r | r <;> simp at r
theorem Says.same {f g : List Nat} {P : List (Nat × Nat)} (h : Says f P) (hl : Low g) (hr : ∀ x, root g x = root f x) : Says g P := ⟨hl, fun x y => by rw [hr, hr]; exact h.2 x y⟩
theorem Says.link {f : List Nat} {P : List (Nat × Nat)} (h : Says f P) {i j : Nat} (hi : i < f.length) (hj : j < f.length) : Says (f.set (max (root f i) (root f j)) (min (root f i) (root f j))) (P ++ [(i, j)]) := by
  have h1 : root f i < f.length := Nat.lt_of_le_of_lt (root_le i) hi
  have h2 : root f j < f.length := Nat.lt_of_le_of_lt (root_le j) hj
  refine ⟨h.1.set (by omega), fun x y => ?_⟩
  rw [root_link h.1 h1 h2 (root_root i) (root_root j), root_link h.1 h1 h2 (root_root i) (root_root j), conn_snoc, ← h.2, ← h.2, ← h.2, ← h.2, ← h.2]
  rcases Nat.le_total (root f i) (root f j) with hle | hle
  · rw [Nat.max_eq_right hle, Nat.min_eq_left hle]
    split <;> split <;> omega
  · rw [Nat.max_eq_left hle, Nat.min_eq_right hle]
    split <;> split <;> omega

/-! Sets -/
def MeetP (S : List Nat) (a b : Nat) : Prop := ∃ x ∈ S, x.testBit a = true ∧ x.testBit b = true
theorem MeetP.symm {S : List Nat} (a b : Nat) (h : MeetP S a b) : MeetP S b a := by obtain ⟨x, hx, h1, h2⟩ := h; exact ⟨x, hx, h2, h1⟩
/-- The least site of those that are joined. -/
def bitsOf (x : Nat) : List Nat := (List.range 64).filter fun k => x.testBit k
theorem mem_bits {x k : Nat} : k ∈ bitsOf x ↔ k < 64 ∧ x.testBit k = true := by simp [bitsOf]
def firstB (x : Nat) : Nat := (bitsOf x).headD 64
def prsOf (S : List Nat) : List (Nat × Nat) := (S.map fun x => (bitsOf x).map fun k => (firstB x, k)).flatten
theorem firstB_mem {x k : Nat} (h : k ∈ bitsOf x) : firstB x ∈ bitsOf x := by
  unfold firstB
  cases hb : bitsOf x with
  | nil => rw [hb] at h; cases h
  | cons a l => simp
theorem conn_prs {S : List Nat} (hS : ∀ x ∈ S, x < 2 ^ 64) {x y : Nat} : Conn (Prs (prsOf S)) x y ↔ Conn (MeetP S) x y := by
  have hmem : ∀ a b, (a, b) ∈ prsOf S ↔ ∃ x ∈ S, a = firstB x ∧ b ∈ bitsOf x := by
    intro a b
    simp only [prsOf, List.mem_flatten, List.mem_map]
    constructor
    · rintro ⟨l, ⟨x, hx, rfl⟩, h⟩
      simp only [List.mem_map, Prod.mk.injEq] at h
      obtain ⟨k, hk, rfl, rfl⟩ := h
      exact ⟨x, hx, rfl, hk⟩
    · rintro ⟨x, hx, rfl, hb⟩
      exact ⟨_, ⟨x, hx, rfl⟩, List.mem_map.2 ⟨b, hb, rfl⟩⟩
  constructor
  · refine Conn.map fun a b h => Conn.one ?_
    rcases h with h | h <;> obtain ⟨x, hx, e, hb⟩ := (hmem _ _).1 h
    · exact ⟨x, hx, e ▸ (mem_bits.1 (firstB_mem hb)).2, (mem_bits.1 hb).2⟩
    · exact ⟨x, hx, (mem_bits.1 hb).2, e ▸ (mem_bits.1 (firstB_mem hb)).2⟩
  · refine Conn.map fun a b h => ?_
    obtain ⟨x, hx, h1, h2⟩ := h
    have hlt : ∀ k, x.testBit k = true → k < 64 := fun k hk => by
      apply Classical.byContradiction
      intro hn
      have : x < 2 ^ k := Nat.lt_of_lt_of_le (hS x hx) (Nat.pow_le_pow_right (by decide) (by omega))
      rw [Nat.testBit_lt_two_pow this] at hk; cases hk
    have b1 := mem_bits.2 ⟨hlt a h1, h1⟩
    have b2 := mem_bits.2 ⟨hlt b h2, h2⟩
    exact (Conn.one (Or.inr ((hmem _ _).2 ⟨x, hx, rfl, b1⟩))).tail (Or.inl ((hmem _ _).2 ⟨x, hx, rfl, b2⟩))

/-- The class of each site: its place among the least sites of classes. -/
def leadsB (f : List Nat) (k : Nat) : Nat := (List.range k).countP fun j => decide (root f j = j)
def clsOf (f : List Nat) (k : Nat) : Nat := leadsB f (root f k) + 1
theorem leadsB_succ (f : List Nat) (k : Nat) : leadsB f (k + 1) = leadsB f k + if root f k = k then 1 else 0 := by
  unfold leadsB
  rw [List.range_succ, List.countP_append]
  simp [List.countP_cons]
theorem leadsB_congr {f g : List Nat} (h : ∀ x, root g x = root f x) (k : Nat) : leadsB g k = leadsB f k := by simp only [leadsB, h]
theorem leadsB_mono (f : List Nat) {i k : Nat} (h : i ≤ k) : leadsB f i ≤ leadsB f k := by
  induction h with
  | refl => exact Nat.le_refl _
  | @step m _ ih => rw [show m.succ = m + 1 from rfl, leadsB_succ]; omega
theorem clsOf_congr {f g : List Nat} (h : ∀ x, root g x = root f x) (k : Nat) : clsOf g k = clsOf f k := by simp only [clsOf, h, leadsB_congr h]
theorem clsOf_eq {f : List Nat} {i j : Nat} : clsOf f i = clsOf f j ↔ root f i = root f j := by
  constructor
  · intro h
    have key : ∀ {a b : Nat}, root f a = a → a < b → leadsB f a < leadsB f b := fun {a b} ha hab => by
      have h1 := leadsB_mono f (show a + 1 ≤ b by omega)
      rw [leadsB_succ, if_pos ha] at h1; omega
    simp only [clsOf] at h
    rcases Nat.lt_trichotomy (root f i) (root f j) with hl | he | hl
    · have := key (root_root i) hl; omega
    · exact he
    · have := key (root_root j) hl; omega
  · intro h; simp only [clsOf, h]

/-! Rounds -/
theorem countP_lt {n : Nat} {p q : Nat → Bool} (h : ∀ j, j < n → p j = true → q j = true) {b : Nat} (hb : b < n) (h1 : p b = false) (h2 : q b = true) : (List.range n).countP p < (List.range n).countP q := by
  induction n with
  | zero => omega
  | succ n ih =>
    rw [List.range_succ, List.countP_append, List.countP_append]
    have hle : (List.range n).countP p ≤ (List.range n).countP q := List.countP_mono_left fun j hj hp => h j (by have := List.mem_range.1 hj; omega) hp
    rcases Nat.lt_or_eq_of_le (show b ≤ n by omega) with hbn | rfl
    · have := ih (fun j hj => h j (by omega)) hbn
      have h3 := h n (by omega)
      cases hp : p n <;> cases hq : q n <;> simp_all <;> omega
    · simp [h1, h2]; omega
/-- How far a set has come that is closed round by round. -/
def Come (n : Nat) (R : Nat → Nat → Prop) (r : Nat) (T : Nat → Bool) : Prop := (∀ a b, a < n → b < n → T a = true → R a b → T b = true) ∨ r + 1 ≤ (List.range n).countP T
theorem Come.next {n : Nat} {R : Nat → Nat → Prop} {r : Nat} {T T' : Nat → Bool} (h : Come n R r T) (hm : ∀ j, j < n → T j = true → T' j = true) (hc : ∀ a b, a < n → b < n → T a = true → R a b → T' b = true) (hs : (∀ a b, a < n → b < n → T a = true → R a b → T b = true) → ∀ j, j < n → T' j = T j) : Come n R (r + 1) T' := by
  by_cases hcl : ∀ a b, a < n → b < n → T a = true → R a b → T b = true
  · have := hs hcl
    left
    intro a b ha hb h1 h2
    rw [this b hb]
    exact hcl a b ha hb (by rw [← this a ha]; exact h1) h2
  · right
    have hge := h.resolve_left hcl
    obtain ⟨b, hb, h1, h2⟩ : ∃ b, b < n ∧ T b = false ∧ T' b = true := by
      apply Classical.byContradiction
      intro hn
      apply hcl
      intro a b ha hb h1 h2
      cases hT : T b with
      | true => rfl
      | false => exact absurd ⟨b, hb, hT, hc a b ha hb h1 h2⟩ hn
    have := countP_lt hm hb h1 h2
    omega
theorem Come.end_ {n : Nat} {R : Nat → Nat → Prop} {T : Nat → Bool} (h : Come n R n T) : ∀ a b, a < n → b < n → T a = true → R a b → T b = true := by
  rcases h with h | h
  · exact h
  · have : (List.range n).countP T ≤ (List.range n).length := List.countP_le_length
    simp at this; omega

end Go.Proofs.YtopfjochppdnfaaDoor
