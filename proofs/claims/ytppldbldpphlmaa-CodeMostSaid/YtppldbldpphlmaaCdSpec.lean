/- Which codes can be: what the program and the document compute, plainly. -/
import Derived.Test.YtppldbldpphlmaaCdGood
set_option linter.unusedVariables false
set_option linter.unusedSimpArgs false
set_option maxRecDepth 8000
set_option maxHeartbeats 1000000
namespace Go.Proofs.Ytppldbldpphlmaa
open Go.Abs

abbrev Cd := Api_Code
abbrev Lo := Api_Local
abbrev In := Api_Instr
abbrev Bd := Api_Body

/-- Is a number the place of one of so many? -/
def btw (n m : Int) : Bool := decide (0 ≤ n) && decide (n < m)
/-- One of a list by its number. -/
def getI {α : Type} (l : List α) (n : Int) : Option α := if 0 ≤ n then l[n.toNat]? else none
theorem getI_some {α : Type} {l : List α} {n : Int} : btw n l.length = true ↔ ∃ x, getI l n = some x := by
  unfold btw getI
  simp only [Bool.and_eq_true, decide_eq_true_eq]
  constructor
  · rintro ⟨h1, h2⟩
    exact ⟨l[n.toNat]'(by omega), by rw [if_pos h1]; exact List.getElem?_eq_getElem (by omega)⟩
  · rintro ⟨x, h⟩
    by_cases h1 : 0 ≤ n
    · rw [if_pos h1] at h
      have := (List.getElem?_eq_some_iff.1 h).1
      omega
    · rw [if_neg h1] at h; cases h
theorem getI_none {α : Type} {l : List α} {n : Int} : btw n l.length = false ↔ getI l n = none := by
  cases h : getI l n with
  | some x => simp [getI_some.2 ⟨x, h⟩]
  | none =>
    cases hb : btw n l.length with
    | false => simp
    | true => obtain ⟨x, hx⟩ := getI_some.1 hb; rw [hx] at h; cases h
theorem getI_btw {α : Type} {l : List α} {n : Int} {x : α} (h : getI l n = some x) : 0 ≤ n ∧ n < l.length := by
  have := getI_some.2 ⟨x, h⟩
  simpa [btw] using this
theorem getI_nat {α : Type} {l : List α} {n : Int} {x : α} (h : getI l n = some x) : ∃ k : Nat, n = k ∧ l[k]? = some x := by
  have h1 := (getI_btw h).1
  unfold getI at h
  rw [if_pos h1] at h
  exact ⟨n.toNat, by omega, h⟩
theorem getI_mem {α : Type} {l : List α} {n : Int} {x : α} (h : getI l n = some x) : x ∈ l := by
  obtain ⟨k, -, h⟩ := getI_nat h
  exact List.mem_of_getElem? h
theorem getI_natCast {α : Type} (l : List α) (k : Nat) : getI l (k : Int) = l[k]? := by
  unfold getI; rw [if_pos (by omega)]; simp

/-- The place of the first one; -1: there is none. -/
def posI {α : Type} (p : α → Bool) : List α → Int
  | [] => -1
  | x :: l => if p x then 0 else let r := posI p l; if r < 0 then -1 else r + 1
def secP (t a : Int) (s : Api_Section) : Bool := decide (s.Thread = t) && decide (s.From < a) && decide (a ≤ s.To)
def insI (c : Cd) (t a : Int) : Int := posI (secP t a) (slL c.Sections)

def localB (c : Cd) (l : Lo) : Bool := if l.Kind = 4 then btw l.Rec (slL c.Records).length else decide (1 ≤ l.Kind) && decide (l.Kind ≤ 3) && decide (l.Rec = 0)
def cellsB (c : Cd) (l : List Lo) (most : Int) : Bool := decide ((l.length : Int) ≤ most) && l.all (fun x => !x.Once && localB c x)
def sameB (a b : Lo) : Bool := decide (a.Kind = b.Kind) && decide (a.Rec = b.Rec)
def isB (b : Bd) (n : Int) (want : Lo) : Bool := match getI (slL b.Slots) n with | some l => sameB l want | none => false
noncomputable def itemsB (b : Bd) (l : Option (List It)) : Bool := goodB (slL l) (slL b.Slots).length
def fieldO (c : Cd) (b : Bd) (x : In) : Option Lo :=
  match getI (slL c.Records) x.Rec with
  | none => none
  | some r => match getI (slL r) x.N with
    | none => none
    | some f => if isB b x.Src ⟨4, x.Rec, false⟩ then some f else none
def siteB (c : Cd) (t : Int) (x : In) (a rec : Int) : Bool := decide (getI (slL c.Sites) x.N = some ⟨t, a, rec⟩)
def goesB (c : Cd) (t : Int) (b : Bd) (a to : Int) : Bool := btw to (slL b.Code).length && decide (insI c t a = insI c t to)
def plainB (x : In) (d s r n t i ix : Bool) : Bool :=
  (d || decide (x.Dst = 0)) && (s || decide (x.Src = 0)) && (r || decide (x.Rec = 0)) && (n || decide (x.N = 0)) && (t || decide (x.To = 0)) && (i || decide (((slL x.Items).length : Int) = 0)) && (ix || decide (((slL x.Index).length : Int) = 0))
noncomputable def loadsB (c : Cd) (t : Int) (b : Bd) (x : In) (a : Int) : Bool :=
  if x.Op = 2 then plainB x true false false true false false false && (match getI (slL c.Globals) x.N with | some g => isB b x.Dst g | none => false)
  else if x.Op = 3 then plainB x true true true true false false false && (match fieldO c b x with | some f => isB b x.Dst f | none => false)
  else if x.Op = 4 then plainB x true true false false false false true && isB b x.Dst ⟨1, 0, false⟩ && isB b x.Src ⟨3, 0, false⟩ && itemsB b x.Index
  else if x.Op = 10 then plainB x true true false false false false false && isB b x.Dst ⟨1, 0, false⟩ && isB b x.Src ⟨3, 0, false⟩
  else if x.Op = 8 then plainB x true false true true false false false && btw x.Rec (slL c.Records).length && isB b x.Dst ⟨4, x.Rec, false⟩ && siteB c t x a x.Rec
  else plainB x true false false true false true false && isB b x.Dst ⟨3, 0, false⟩ && itemsB b x.Items && siteB c t x a (-1)
noncomputable def storesB (c : Cd) (b : Bd) (x : In) : Bool :=
  if x.Op = 5 then plainB x false false false true false true false && btw x.N (slL c.Globals).length && itemsB b x.Items
  else if x.Op = 6 then plainB x false true true true false true false && (fieldO c b x).isSome && itemsB b x.Items
  else plainB x false true false false false true true && isB b x.Src ⟨3, 0, false⟩ && itemsB b x.Items && itemsB b x.Index
def borderB (c : Cd) (t : Int) (x : In) (a : Int) : Bool :=
  plainB x false false false true false false false && (match getI (slL c.Sections) x.N with | some s => decide (s.Thread = t) && (if x.Op = 15 then decide (s.From = a) else decide (s.To = a)) | none => false)
noncomputable def instrB (c : Cd) (t : Int) (b : Bd) (x : In) (a : Int) : Bool :=
  if (2 ≤ x.Op ∧ x.Op ≤ 9) ∧ insI c t a < 0 then false
  else if x.Op = 1 then plainB x true false false false false true false && btw x.Dst (slL b.Slots).length && itemsB b x.Items
  else if x.Op = 2 ∨ x.Op = 3 ∨ x.Op = 4 ∨ x.Op = 10 ∨ x.Op = 8 ∨ x.Op = 9 then loadsB c t b x a
  else if x.Op = 5 ∨ x.Op = 6 ∨ x.Op = 7 then storesB c b x
  else if x.Op = 11 ∨ x.Op = 12 then plainB x false false false false false true false && itemsB b x.Items
  else if x.Op = 13 then plainB x false false false false true false false && goesB c t b a x.To
  else if x.Op = 14 then plainB x false false false false true true false && goesB c t b a x.To && itemsB b x.Items
  else if x.Op = 15 ∨ x.Op = 16 then borderB c t x a
  else decide (x.Op = 17) && plainB x false false false false false false false && decide (a = (slL b.Code).length - 1)
/-- Does each of a list fit, with its number? -/
def allK {α : Type} (p : Nat → α → Bool) (l : List α) : Bool := (List.range l.length).all fun k => match l[k]? with | some x => p k x | none => true
theorem allK_iff {α : Type} {p : Nat → α → Bool} {l : List α} : allK p l = true ↔ ∀ k x, l[k]? = some x → p k x = true := by
  unfold allK
  simp only [List.all_eq_true, List.mem_range]
  constructor
  · intro h k x hx
    have := h k (List.getElem?_eq_some_iff.1 hx).1
    rw [hx] at this; exact this
  · intro h k hk
    rw [List.getElem?_eq_getElem hk]
    exact h k _ (List.getElem?_eq_getElem hk)
theorem allK_false {α : Type} {p : Nat → α → Bool} {l : List α} {k : Nat} {x : α} (hx : l[k]? = some x) (hp : p k x = false) : allK p l = false := by
  rw [Bool.eq_false_iff]
  intro h
  have := allK_iff.1 h k x hx
  rw [hp] at this; cases this
/-- The first ones fit. -/
def upTo {α : Type} (p : Nat → α → Bool) (l : List α) (n : Nat) : Prop := ∀ k x, k < n → l[k]? = some x → p k x = true
theorem upTo_zero {α : Type} (p : Nat → α → Bool) (l : List α) : upTo p l 0 := fun k x h => by omega
theorem upTo_succ {α : Type} {p : Nat → α → Bool} {l : List α} {n : Nat} {x : α} (h : upTo p l n) (hx : l[n]? = some x) (hp : p n x = true) : upTo p l (n + 1) := fun k y hk hy => by
  by_cases e : k = n
  · subst e; rw [hx] at hy; cases hy; exact hp
  · exact h k y (by omega) hy
theorem upTo_all {α : Type} {p : Nat → α → Bool} {l : List α} (h : upTo p l l.length) : allK p l = true := allK_iff.2 fun k x hx => h k x (List.getElem?_eq_some_iff.1 hx).1 hx

def lastB (b : Bd) : Bool := match getI (slL b.Code) ((slL b.Code).length - 1) with | some x => decide (x.Op = 17) | none => false
noncomputable def instrsB (c : Cd) (t : Int) (b : Bd) : Bool := allK (fun k x => instrB c t b x k) (slL b.Code)
def bodyB (c : Cd) (b : Bd) : Bool := decide ((slL b.Slots).length ≤ 64) && decide (1 ≤ (slL b.Code).length) && decide ((slL b.Code).length ≤ 256) && decide (0 ≤ b.Most) && decide (b.Most ≤ 4096) && (slL b.Slots).all (localB c)
noncomputable def threadB (c : Cd) (t : Int) (b : Bd) : Bool := bodyB c b && lastB b && instrsB c t b
noncomputable def threadsB (c : Cd) : Bool := allK (fun k b => threadB c k b) (slL c.Threads)
def codeAt (c : Cd) (t a : Int) : Option In := match getI (slL c.Threads) t with | some b => getI (slL b.Code) a | none => none
/-- A section's own ends. -/
def endsB (c : Cd) (k : Int) (s : Api_Section) : Bool :=
  decide (0 ≤ s.From) && decide (s.From < s.To) &&
  (match codeAt c s.Thread s.From with | some x => decide (x.Op = 15) && decide (x.N = k) | none => false) &&
  (match codeAt c s.Thread s.To with | some x => decide (x.Op = 16) && decide (x.N = k) | none => false)
def meetB (s o : Api_Section) : Bool := decide (o.Thread = s.Thread) && decide (o.From ≤ s.To) && decide (s.From ≤ o.To)
def secB (c : Cd) (k : Nat) (s : Api_Section) : Bool := endsB c k s && ((slL c.Sections).take k).all (fun o => !meetB s o)
def sectionsB (c : Cd) : Bool := decide ((slL c.Sections).length ≤ 32) && allK (secB c) (slL c.Sections)
def siteOk (c : Cd) (k : Nat) (s : Api_Site) : Bool := match codeAt c s.Thread s.At with | some x => decide (x.N = k) && (decide (x.Op = 8) || decide (x.Op = 9)) | none => false
def sitesB (c : Cd) : Bool := decide ((slL c.Sites).length ≤ 32) && allK (siteOk c) (slL c.Sites)
/-- Can a code be? -/
noncomputable def okC (c : Cd) : Bool := decide ((slL c.Records).length ≤ 6) && decide ((slL c.Threads).length ≤ 4) && cellsB c (slL c.Globals) 8 && sectionsB c && sitesB c && (slL c.Records).all (fun r => cellsB c (slL r) 6) && threadsB c

theorem posI_ge {α : Type} (p : α → Bool) : ∀ l : List α, -1 ≤ posI p l
  | [] => by simp [posI]
  | x :: l => by
    have := posI_ge p l
    simp only [posI]
    split
    · omega
    · split <;> omega
theorem posI_step {α : Type} {p : α → Bool} : ∀ {l : List α} {k : Nat}, k ≤ l.length → (∀ j x, j < k → l[j]? = some x → p x = false) →
    posI p l = if posI p (l.drop k) < 0 then -1 else posI p (l.drop k) + k
  | l, 0, _, _ => by
    have := posI_ge p l
    simp only [List.drop_zero]
    split <;> omega
  | [], k + 1, h, _ => by simp at h
  | x :: l, k + 1, h, hf => by
    have hx := hf 0 x (by omega) rfl
    have ih := posI_step (p := p) (l := l) (k := k) (by simpa using h) (fun j y hj hy => hf (j + 1) y (by omega) (by simpa using hy))
    simp only [posI, List.drop_succ_cons, hx, Bool.false_eq_true, if_false]
    rw [ih]
    have := posI_ge p (l.drop k)
    split
    · simp
    · rw [if_neg (by omega)]; omega
theorem posI_here {α : Type} {p : α → Bool} {l : List α} {k : Nat} {x : α} (hx : l[k]? = some x) (hp : p x = true) (hf : ∀ j x, j < k → l[j]? = some x → p x = false) : posI p l = k := by
  have hk := (List.getElem?_eq_some_iff.1 hx).1
  rw [posI_step (k := k) (by omega) hf, List.drop_eq_getElem_cons hk]
  have : l[k] = x := (List.getElem?_eq_some_iff.1 hx).2
  simp [posI, this, hp]
theorem posI_none {α : Type} {p : α → Bool} {l : List α} (hf : ∀ j x, j < l.length → l[j]? = some x → p x = false) : posI p l = -1 := by
  rw [posI_step (k := l.length) (Nat.le_refl _) hf]; simp [posI]
theorem posI_neg {α : Type} {p : α → Bool} : ∀ {l : List α}, posI p l < 0 ↔ l.any p = false
  | [] => by simp [posI]
  | x :: l => by
    have ih := posI_neg (p := p) (l := l)
    have := posI_ge p l
    simp only [posI, List.any_cons]
    cases hx : p x with
    | true => simp
    | false =>
      simp only [Bool.false_eq_true, if_false, Bool.false_or]
      rw [← ih]
      split <;> omega

end Go.Proofs.Ytppldbldpphlmaa
