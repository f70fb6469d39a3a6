/- Rules by which simp runs a condition from its head, no further than is known. -/
import Derived.Test.YtopfjochppdnfaaDoorAbsMore
set_option linter.unusedVariables false
set_option linter.unusedSimpArgs false
namespace Go.Abs
open Go.RowKit

/-- A mark: what it marks is left alone by simp, until it is applied. -/
@[reducible] def Tok {α : Type} (_ : α) : Type := Unit
def later {α : Type} (K : α) (t : Tok K) : α := K
theorem later_1 {α : Type} (K : α → Prop) (t : Tok K) (x : α) : later K t x = K x := rfl
theorem later_2 {α β : Type} (K : α → β → Prop) (t : Tok K) (x : α) (y : β) : later K t x y = K x y := rfl
theorem later_3 {α β γ : Type} (K : α → β → γ → Prop) (t : Tok K) (x : α) (y : β) (z : γ) : later K t x y z = K x y z := rfl

/-- A cut: what is to be shown behind it stands there as it is, or an assertion of one's own. -/
theorem Cut.go {A : (Fr → AHeap → Prop) → Prop} {B : Fr → AHeap → Prop} {a : Tok A} {b : Tok B} (H : A (later B b)) : Cut (later A a) (later B b) := ⟨later B b, H, fun _ _ h => h⟩
theorem Cut.on {A : (Fr → AHeap → Prop) → Prop} {B : Fr → AHeap → Prop} {a : Tok A} {b : Tok B} (J : Fr → AHeap → Prop) (H : A J) (H2 : ∀ fr h, J fr h → B fr h) : Cut (later A a) (later B b) := ⟨J, H, H2⟩

/-- A choice that waits. -/
def SplitT (b : Bool) (T F : Unit → Prop) (t : Tok T) (f : Tok F) : Prop := if b then T () else F ()
abbrev Split (b : Bool) (T F : Unit → Prop) : Prop := SplitT b T F () ()
/-- Both of two that wait. -/
def BothT (T F : Unit → Prop) (t : Tok T) (f : Tok F) : Prop := T () ∧ F ()
abbrev Both (T F : Unit → Prop) : Prop := BothT T F () ()
theorem Split_true (T F : Unit → Prop) (t : Tok T) (f : Tok F) : SplitT true T F t f = T () := rfl
theorem Split_false (T F : Unit → Prop) (t : Tok T) (f : Tok F) : SplitT false T F t f = F () := rfl
theorem Split.intro {b : Bool} {T F : Unit → Prop} (h1 : b = true → T ()) (h2 : b = false → F ()) : Split b T F := by
  cases b
  · exact h2 rfl
  · exact h1 rfl
theorem Both.intro {T F : Unit → Prop} (h1 : T ()) (h2 : F ()) : Both T F := ⟨h1, h2⟩
theorem Split_lt {a b : Int} {T F : Unit → Prop} (h1 : a < b → T ()) (h2 : b ≤ a → F ()) : Split (decide (a < b)) T F := Split.intro (fun h => h1 (of_decide_eq_true h)) (fun h => h2 (by have := of_decide_eq_false h; omega))
theorem Split_le {a b : Int} {T F : Unit → Prop} (h1 : a ≤ b → T ()) (h2 : b < a → F ()) : Split (decide (a ≤ b)) T F := Split.intro (fun h => h1 (of_decide_eq_true h)) (fun h => h2 (by have := of_decide_eq_false h; omega))
theorem Split_dec {p : Prop} [Decidable p] {T F : Unit → Prop} (h1 : p → T ()) (h2 : ¬ p → F ()) : Split (decide p) T F := Split.intro (fun h => h1 (of_decide_eq_true h)) (fun h => h2 (of_decide_eq_false h))
theorem Split_eq {a b : Int} {T F : Unit → Prop} (h1 : a = b → T ()) (h2 : a ≠ b → F ()) : Split (a == b) T F := Split.intro (fun h => h1 (by simpa using h)) (fun h => h2 (by simpa using h))
theorem Split_ne {a b : Int} {T F : Unit → Prop} (h1 : a ≠ b → T ()) (h2 : a = b → F ()) : Split (a != b) T F := Split.intro (fun h => h1 (by simpa using h)) (fun h => h2 (by simpa using h))
theorem Split_not {b : Bool} {T F : Unit → Prop} (h : Split b F T) : Split (!b) T F := by
  cases b
  · exact h
  · exact h

theorem run_pCond (b : Bool) (T F : Prop) : pCond (.bool b) T F = SplitT b (fun _ => T) (fun _ => F) () () := by cases b <;> rfl
theorem run_pCond_unkb (T F : Prop) : pCond .unkb T F = BothT (fun _ => T) (fun _ => F) () () := rfl
theorem run_pGuardT (b : Bool) (T F : Prop) : pGuard (.bool b) true T F = SplitT b (fun _ => T) (fun _ => F) () () := by cases b <;> rfl
theorem run_pGuardF (b : Bool) (T F : Prop) : pGuard (.bool b) false T F = SplitT b (fun _ => F) (fun _ => T) () () := by cases b <;> rfl
theorem run_pGuard_unkb (w : Bool) (T F : Prop) : pGuard .unkb w T F = BothT (fun _ => T) (fun _ => F) () () := rfl
theorem run_pGuardST (b : Bool) (T F : Prop) : pGuardS (.bool b) true T F = SplitT b (fun _ => T) (fun _ => F) () () := by cases b <;> rfl
theorem run_pGuardSF (b : Bool) (T F : Prop) : pGuardS (.bool b) false T F = SplitT b (fun _ => F) (fun _ => T) () () := by cases b <;> rfl
theorem run_pPick (b : Bool) (x y : AV) (K : AV → Prop) : pPick (.bool b) x y K = SplitT b (fun _ => K x) (fun _ => K y) () () := by cases b <;> rfl
theorem pChunk_eq (vs : List AV) (K : List AV → Prop) : pChunk vs K = K vs := rfl
theorem run_pIdx (i k : Nat) (T F : Prop) : pIdx i k T F = if i = k then T else F := rfl
theorem run_pExtract (i : Nat) (vs : List AV) (v : AV) (K : AV → Prop) (h : vs[i]? = some v) : pExtract i (.tup vs) K = K v := by simp [pExtract, h]
theorem run_pExtract0 (v : AV) (vs : List AV) (K : AV → Prop) : pExtract 0 (.tup (v :: vs)) K = K v := rfl
theorem run_pExtractS (i : Nat) (v : AV) (vs : List AV) (K : AV → Prop) : pExtract (i + 1) (.tup (v :: vs)) K = pExtract i (.tup vs) K := rfl

theorem dT_lt {a b : Int} (h : a < b) : decide (a < b) = true := decide_eq_true h
theorem dF_lt {a b : Int} (h : b ≤ a) : decide (a < b) = false := decide_eq_false (by omega)
theorem dT_le {a b : Int} (h : a ≤ b) : decide (a ≤ b) = true := decide_eq_true h
theorem dF_le {a b : Int} (h : b < a) : decide (a ≤ b) = false := decide_eq_false (by omega)
theorem dT_eq {a b : Int} (h : a = b) : (a == b) = true := by simp [h]
theorem dF_eq {a b : Int} (h : a ≠ b) : (a == b) = false := by simp [h]
theorem dT_ne {a b : Int} (h : a ≠ b) : (a != b) = true := by simp [h]
theorem dF_ne {a b : Int} (h : a = b) : (a != b) = false := by simp [h]
theorem wrapI {n : Int} (h1 : -9223372036854775808 ≤ n) (h2 : n ≤ 9223372036854775807) : IntKind.i64.wrap n = n := wrap_i64 ⟨h1, h2⟩
theorem wrapN {n : Int} (h1 : 0 ≤ n) (h2 : n < 18446744073709551616) : IntKind.u64.wrap n = n := by rw [wr_u64]; omega
theorem wrapB {n : Int} (h1 : 0 ≤ n) (h2 : n < 256) : IntKind.u8.wrap n = n := by rw [wr_u8]; omega
theorem run_ixSl {i o len n : Nat} {kk : IntKind} {k : Int} (h1 : 0 ≤ k) (h2 : k < len) (K : AV → Prop) : pIndexAddr (.slice n) (.sl i o len n) (.int kk k) K = K (.ptr i (o + k.toNat * n)) := by simp [pIndexAddr, h1, h2]
theorem run_cellsSome {n : Nat} {cs : List AV} {off : Nat} (h : off + n ≤ cs.length) (K : AV → Prop) : pCells (some n) cs off K = K (.agg ((cs.drop off).take n)) := by simp [pCells, h]
theorem true_and_eq (p : Prop) : (True ∧ p) = p := by simp
theorem run_mono {P : Program} {f : FuncId} {args : List AV} {h : AHeap} {R R' : AV → AHeap → Prop} (H : CallsA P f args h R) (hr : ∀ v h', R v h' → R' v h') : CallsA P f args h R' := H.mono hr
/-! ### What simp leaves alone: what comes later -/
section
variable {P : Program}
theorem cg_obind {x y : Option AV} {K : AV → Prop} (h0 : x = y) : (obind x K) = (obind y K) := by subst h0; rfl
theorem cg_pNil {x y : AV} {K : AV → Prop} (h0 : x = y) : (pNil x K) = (pNil y K) := by subst h0; rfl
theorem cg_pFieldAddr {o : Nat} {x y : AV} {K : AV → Prop} (h0 : x = y) : (pFieldAddr o x K) = (pFieldAddr o y K) := by subst h0; rfl
theorem cg_pField {o : Nat} {k : Option Nat} {x y : AV} {K : AV → Prop} (h0 : x = y) : (pField o k x K) = (pField o k y K) := by subst h0; rfl
theorem cg_pCells {k : Option Nat} {o p : Nat} {x y : List AV} {K : AV → Prop} (h0 : x = y) (h1 : o = p) : (pCells k x o K) = (pCells k y p K) := by subst h0; subst h1; rfl
theorem cg_pLoad {k : Option Nat} {x y : AV} {h g : AHeap} {K : AV → Prop} (h0 : x = y) : (pLoad k x h K) = (pLoad k y h K) := by subst h0; rfl
theorem cg_pStore {n : Nat} {x y u v : AV} {h : AHeap} {K : AHeap → Prop} (h0 : x = y) (h1 : u = v) : (pStore n x u h K) = (pStore n y v h K) := by subst h0; subst h1; rfl
theorem cg_pIndexAddr {ik : IxK} {x y u v : AV} {K : AV → Prop} (h0 : x = y) (h1 : u = v) : (pIndexAddr ik x u K) = (pIndexAddr ik y v K) := by subst h0; subst h1; rfl
theorem cg_pIndexStr {x y u v : AV} {K : AV → Prop} (h0 : x = y) (h1 : u = v) : (pIndexStr x u K) = (pIndexStr y v K) := by subst h0; subst h1; rfl
theorem cg_pSliceStr {x y : AV} {u v p q : Option AV} {K : AV → Prop} (h0 : x = y) (h1 : u = v) (h2 : p = q) : (pSliceStr x u p K) = (pSliceStr y v q K) := by subst h0; subst h1; subst h2; rfl
theorem cg_pSliceSl {n : Nat} {x y : AV} {u v p q : Option AV} {K : AV → Prop} (h0 : x = y) (h1 : u = v) (h2 : p = q) : (pSliceSl n x u p K) = (pSliceSl n y v q K) := by subst h0; subst h1; subst h2; rfl
theorem cg_pLen {k : LenK} {x y : AV} {K : AV → Prop} (h0 : x = y) : (pLen k x K) = (pLen k y K) := by subst h0; rfl
theorem cg_pConv {k : CvK} {x y : AV} {h : AHeap} {K : AV → Prop} (h0 : x = y) : (pConv k x h K) = (pConv k y h K) := by subst h0; rfl
theorem cg_pExtract {i : Nat} {x y : AV} {K : AV → Prop} (h0 : x = y) : (pExtract i x K) = (pExtract i y K) := by subst h0; rfl
theorem cg_pAlloc {ty : TypeId} {x y : List AV} {h : AHeap} {K : AV → AHeap → Prop} (h0 : x = y) : (pAlloc ty x h K) = (pAlloc ty y h K) := by subst h0; rfl
theorem cg_pBox {im : Bool} {ty : TypeId} {x y : AV} {h : AHeap} {K : AV → AHeap → Prop} (h0 : x = y) : (pBox im ty x h K) = (pBox im ty y h K) := by subst h0; rfl
theorem cg_pBuild {pl : List (Nat × Nat)} {z : List AV} {x y : List (Nat × AV)} {K : AV → Prop} (h0 : x = y) : (pBuild pl z x K) = (pBuild pl z y K) := by subst h0; rfl
theorem cg_pBuildSl {im : Bool} {T : SlT} {z : List AV} {n : Nat} {x y : List (Nat × AV)} {h : AHeap} {K : AV → AHeap → Prop} (h0 : x = y) : (pBuildSl im T z n x h K) = (pBuildSl im T z n y h K) := by subst h0; rfl
theorem cg_pMakeSl {T : SlT} {z : List AV} {x y u v : AV} {h : AHeap} {K : AV → AHeap → Prop} (h0 : x = y) (h1 : u = v) : (pMakeSl T z x u h K) = (pMakeSl T z y v h K) := by subst h0; subst h1; rfl
theorem cg_pAppend {gr : Bool} {T : SlT} {x y u v : AV} {h : AHeap} {K : AV → AHeap → Prop} (h0 : x = y) (h1 : u = v) : (pAppend gr T x u h K) = (pAppend gr T y v h K) := by subst h0; subst h1; rfl
theorem cg_pCond {x y : AV} {T F : Prop} (h0 : x = y) : (pCond x T F) = (pCond y T F) := by subst h0; rfl
theorem cg_pGuard {x y : AV} {w : Bool} {T F : Prop} (h0 : x = y) : (pGuard x w T F) = (pGuard y w T F) := by subst h0; rfl
theorem cg_pGuardS {x y : AV} {w : Bool} {T F : Prop} (h0 : x = y) : (pGuardS x w T F) = (pGuardS y w T F) := by subst h0; rfl
theorem cg_pPick {x y a b : AV} {K : AV → Prop} (h0 : x = y) : (pPick x a b K) = (pPick y a b K) := by subst h0; rfl
theorem cg_pJoin {b : (List AV → AHeap → Prop) → Prop} {k : List AV → AHeap → Prop}  : (pJoin b k) = (pJoin b k) := by rfl
theorem cg_pIdx {i k : Nat} {T F : Prop}  : (pIdx i k T F) = (pIdx i k T F) := by rfl
theorem cg_CallsA {f : FuncId} {x y : List AV} {h : AHeap} {R : AV → AHeap → Prop} (h0 : x = y) : (CallsA P f x h R) = (CallsA P f y h R) := by subst h0; rfl
theorem cg_WP {N : Nat} {code : Code} {x y : Fr} {h : AHeap} {Q : AExit → Fr → AHeap → Prop} (h0 : x = y) : (WP P N code x h Q) = (WP P N code y h Q) := by subst h0; rfl
theorem cg_pCallF {f g : AV} {x y : List AV} {h : AHeap} {R : AV → AHeap → Prop} (h0 : f = g) (h1 : x = y) : (pCallF P f x h R) = (pCallF P g y h R) := by subst h0; subst h1; rfl
end

theorem Keeps.go {h h1 h2 : AHeap} (a : Keeps h h1 (fun _ => False)) (b : Keeps h1 h2 (fun _ => False)) : Keeps h h2 (fun _ => False) := a.trans b (fun _ _ x => x)
theorem Keeps.one (h : AHeap) (o : AObj) : Keeps h (h.push o) (fun _ => False) := Keeps.push h o

end Go.Abs
