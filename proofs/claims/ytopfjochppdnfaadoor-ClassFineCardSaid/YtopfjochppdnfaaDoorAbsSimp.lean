/- The conditions, step by step: rules for simp. -/
import Derived.Test.YtopfjochppdnfaaDoorAbsWp
set_option linter.unusedVariables false
set_option linter.unusedSimpArgs false
namespace Go.Abs
open Go.RowKit

section
variable {P : Program} {h : AHeap}
attribute [simp] obind_some
@[simp] theorem pNil_ptr (i o : Nat) (K : AV → Prop) : pNil (.ptr i o) K = K (.ptr i o) := rfl
@[simp] theorem pNil_iptr (cs : List AV) (K : AV → Prop) : pNil (.iptr cs) K = K (.iptr cs) := rfl
@[simp] theorem pNil_fn (f : FuncId) (a b : List AV) (K : AV → Prop) : pNil (.fn (.func f) a b) K = K (.fn (.func f) a b) := rfl
@[simp] theorem pFieldAddr_ptr (off i o : Nat) (K : AV → Prop) : pFieldAddr off (.ptr i o) K = K (.ptr i (o + off)) := rfl
@[simp] theorem pFieldAddr_iptr (off : Nat) (cs : List AV) (K : AV → Prop) : pFieldAddr off (.iptr cs) K = K (.iptr (cs.drop off)) := rfl
@[simp] theorem pField_agg (off : Nat) (k : Option Nat) (cs : List AV) (K : AV → Prop) : pField off k (.agg cs) K = pCells k cs off K := rfl
@[simp] theorem pCells_none_some {cs : List AV} {off : Nat} {v : AV} (hv : cs[off]? = some v) (K : AV → Prop) : pCells none cs off K = K v := by simp [pCells, hv]
theorem pCells_none (cs : List AV) (off : Nat) (K : AV → Prop) : pCells none cs off K = match cs[off]? with | some v => K v | none => False := rfl
@[simp] theorem pCells_zero (v : AV) (cs : List AV) (K : AV → Prop) : pCells none (v :: cs) 0 K = K v := rfl
@[simp] theorem pCells_succ (v : AV) (cs : List AV) (n : Nat) (K : AV → Prop) : pCells none (v :: cs) (n + 1) K = pCells none cs n K := by simp [pCells]
@[simp] theorem pCells_some (n : Nat) (cs : List AV) (off : Nat) (K : AV → Prop) : pCells (some n) cs off K = (off + n ≤ cs.length ∧ K (.agg ((cs.drop off).take n))) := rfl
@[simp] theorem pLoad_iptr (k : Option Nat) (cs : List AV) (h : AHeap) (K : AV → Prop) : pLoad k (.iptr cs) h K = pCells k cs 0 K := rfl
theorem pLoad_ptr {id off : Nat} {ty : TypeId} {cs : List AV} (ho : h.objs id = some (.row ty cs)) (k : Option Nat) (K : AV → Prop) : pLoad k (.ptr id off) h K = pCells k cs off K := by simp [pLoad, ho]
theorem pStore_ptr {id off : Nat} {ty : TypeId} {cs : List AV} (ho : h.objs id = some (.row ty cs)) {v : AV} (hv : v.leafy = true) (hl : off < cs.length) (K : AHeap → Prop) : pStore 1 (.ptr id off) v h K = K (h.put id (.row ty (cs.set off v))) := by
  cases v <;> simp_all [pStore, AV.leafy]
@[simp] theorem pCond_bool (b : Bool) (T F : Prop) : pCond (.bool b) T F = if b = true then T else F := rfl
@[simp] theorem pCond_unkb (T F : Prop) : pCond .unkb T F = (T ∧ F) := rfl
@[simp] theorem pGuard_bool (b w : Bool) (T F : Prop) : pGuard (.bool b) w T F = if b = w then T else F := rfl
@[simp] theorem pGuard_unkb (w : Bool) (T F : Prop) : pGuard .unkb w T F = (T ∧ F) := rfl
@[simp] theorem pGuard_tup (w : Bool) (T F : Prop) : pGuard (.tup []) w T F = F := rfl
@[simp] theorem pGuardS_bool (b w : Bool) (T F : Prop) : pGuardS (.bool b) w T F = if b = w then T else F := rfl
@[simp] theorem pGuardS_tup (w : Bool) (T F : Prop) : pGuardS (.tup []) w T F = F := rfl
@[simp] theorem pPick_true (x y : AV) (K : AV → Prop) : pPick (.bool true) x y K = K x := rfl
@[simp] theorem pPick_false (x y : AV) (K : AV → Prop) : pPick (.bool false) x y K = K y := rfl
@[simp] theorem pIdx_same (i : Nat) (T F : Prop) : pIdx i i T F = T := by simp [pIdx]
@[simp] theorem pIdx_eq (i k : Nat) (T F : Prop) : pIdx i k T F = if i = k then T else F := rfl
@[simp] theorem pJoin_eq (b : (List AV → AHeap → Prop) → Prop) (k : List AV → AHeap → Prop) : pJoin b k = b k := rfl
@[simp] theorem nth_zero (v : AV) (vs : List AV) : nth (v :: vs) 0 = v := rfl
@[simp] theorem nth_cons (v : AV) (vs : List AV) (n : Nat) : nth (v :: vs) (n + 1) = nth vs n := by simp [nth]
@[simp] theorem exitQ_normal (n : Fr → AHeap → Prop) (x : Nat → Fr → AHeap → Prop) (r : Fr → AHeap → Prop) (fr : Fr) (h : AHeap) : exitQ n x r .normal fr h = n fr h := rfl
@[simp] theorem exitQ_exit (n : Fr → AHeap → Prop) (x : Nat → Fr → AHeap → Prop) (r : Fr → AHeap → Prop) (fr : Fr) (h : AHeap) (i : Nat) : exitQ n x r (.exit i) fr h = x i fr h := rfl
@[simp] theorem exitQ_ret (n : Fr → AHeap → Prop) (x : Nat → Fr → AHeap → Prop) (r : Fr → AHeap → Prop) (fr : Fr) (h : AHeap) : exitQ n x r .ret fr h = r fr h := rfl
@[simp] theorem frOf_cons (k : Nat) (v : AV) (r : List (Nat × AV)) (i : Nat) : frOf ((k, v) :: r) i = if i = k then v else frOf r i := rfl
theorem loopPost_normal (I : Nat → Fr → AHeap → Prop) (m : Nat) (Q : AExit → Fr → AHeap → Prop) (fr : Fr) (h : AHeap) : loopPost I m Q .normal fr h = ∃ m', m' < m ∧ I m' fr h := rfl
@[simp] theorem loopPost_exit (I : Nat → Fr → AHeap → Prop) (m : Nat) (Q : AExit → Fr → AHeap → Prop) (fr : Fr) (h : AHeap) (i : Nat) : loopPost I m Q (.exit i) fr h = Q (.exit i) fr h := rfl
@[simp] theorem loopPost_ret (I : Nat → Fr → AHeap → Prop) (m : Nat) (Q : AExit → Fr → AHeap → Prop) (fr : Fr) (h : AHeap) : loopPost I m Q .ret fr h = Q .ret fr h := rfl
@[simp] theorem pLen_str (s : List UInt8) (K : AV → Prop) : pLen .str (.str s) K = K (.int .i64 s.length) := rfl
@[simp] theorem pLen_isl (sz : Nat) (es : List (List AV)) (K : AV → Prop) : pLen .slice (.isl sz es) K = K (.int .i64 es.length) := rfl
@[simp] theorem pLen_gsl (i sz : Nat) (es : List (List AV)) (K : AV → Prop) : pLen .slice (.gsl i sz es) K = K (.int .i64 es.length) := rfl
@[simp] theorem pLen_sl (i o l sz : Nat) (K : AV → Prop) : pLen .slice (.sl i o l sz) K = K (.int .i64 l) := rfl
@[simp] theorem pLen_nils (K : AV → Prop) : pLen .slice .nils K = K (.int .i64 0) := rfl
@[simp] theorem pLen_eml (K : AV → Prop) : pLen .slice .eml K = K (.int .i64 0) := rfl
@[simp] theorem pLen_array (n : Nat) (x : AV) (K : AV → Prop) : pLen (.array n) x K = K (.int .i64 n) := by cases x <;> rfl
@[simp] theorem pConv_int (k k' : IntKind) (n : Int) (h : AHeap) (K : AV → Prop) : pConv (.int k) (.int k' n) h K = K (.int k (k.wrap n)) := rfl
@[simp] theorem pConv_str (s : List UInt8) (h : AHeap) (K : AV → Prop) : pConv .same (.str s) h K = K (.str s) := rfl
@[simp] theorem pExtract_tup (i : Nat) (vs : List AV) (K : AV → Prop) : pExtract i (.tup vs) K = match vs[i]? with | some v => K v | none => False := rfl
@[simp] theorem pBox_true (ty : TypeId) (v : AV) (h : AHeap) (K : AV → AHeap → Prop) : pBox true ty v h K = (v.fits = true ∧ K (.iptr v.cells) h) := by simp [pBox]
@[simp] theorem pBox_false (ty : TypeId) (v : AV) (h : AHeap) (K : AV → AHeap → Prop) : pBox false ty v h K = (v.fits = true ∧ K (.ptr h.next 0) (h.push (.row ty v.cells))) := by simp [pBox]
@[simp] theorem pAlloc_eq (ty : TypeId) (z : List AV) (h : AHeap) (K : AV → AHeap → Prop) : pAlloc ty z h K = K (.ptr h.next 0) (h.push (.row ty z)) := rfl
@[simp] theorem cells_agg (cs : List AV) : (AV.agg cs).cells = cs := rfl
@[simp] theorem fits_agg (cs : List AV) : (AV.agg cs).fits = true := rfl

/-! ### Arithmetic -/
@[simp] theorem binA_int_eql (ck : CmpK) (k : IntKind) (a b : Int) : binA ck .eql (.int k a) (.int k b) = some (.bool (a == b)) := by simp [binA, binInt]
@[simp] theorem binA_int_neq (ck : CmpK) (k : IntKind) (a b : Int) : binA ck .neq (.int k a) (.int k b) = some (.bool (a != b)) := by simp [binA, binInt]
@[simp] theorem binA_int_lss (ck : CmpK) (k : IntKind) (a b : Int) : binA ck .lss (.int k a) (.int k b) = some (.bool (decide (a < b))) := by simp [binA, binInt]
@[simp] theorem binA_int_leq (ck : CmpK) (k : IntKind) (a b : Int) : binA ck .leq (.int k a) (.int k b) = some (.bool (decide (a ≤ b))) := by simp [binA, binInt]
@[simp] theorem binA_int_gtr (ck : CmpK) (k : IntKind) (a b : Int) : binA ck .gtr (.int k a) (.int k b) = some (.bool (decide (b < a))) := by simp [binA, binInt]
@[simp] theorem binA_int_geq (ck : CmpK) (k : IntKind) (a b : Int) : binA ck .geq (.int k a) (.int k b) = some (.bool (decide (b ≤ a))) := by simp [binA, binInt]
@[simp] theorem binA_int_add (ck : CmpK) (k : IntKind) (a b : Int) : binA ck .add (.int k a) (.int k b) = some (.int k (k.wrap (a + b))) := by simp [binA, binInt]
@[simp] theorem binA_int_sub (ck : CmpK) (k : IntKind) (a b : Int) : binA ck .sub (.int k a) (.int k b) = some (.int k (k.wrap (a - b))) := by simp [binA, binInt]
@[simp] theorem binA_int_mul (ck : CmpK) (k : IntKind) (a b : Int) : binA ck .mul (.int k a) (.int k b) = some (.int k (k.wrap (a * b))) := by simp [binA, binInt]
@[simp] theorem binA_int_and (ck : CmpK) (k : IntKind) (a b : Int) : binA ck .and (.int k a) (.int k b) = some (.int k (iAnd k a b)) := by simp [binA, binInt]
@[simp] theorem binA_int_or (ck : CmpK) (k : IntKind) (a b : Int) : binA ck .or (.int k a) (.int k b) = some (.int k (iOr k a b)) := by simp [binA, binInt]
@[simp] theorem binA_int_xor (ck : CmpK) (k : IntKind) (a b : Int) : binA ck .xor (.int k a) (.int k b) = some (.int k (iXor k a b)) := by simp [binA, binInt]
@[simp] theorem binA_int_quo (ck : CmpK) (k : IntKind) (a b : Int) : binA ck .quo (.int k a) (.int k b) = if b = 0 then none else some (.int k (k.wrap (a.tdiv b))) := by simp [binA, binInt]
@[simp] theorem binA_int_rem (ck : CmpK) (k : IntKind) (a b : Int) : binA ck .rem (.int k a) (.int k b) = if b = 0 then none else some (.int k (a.tmod b)) := by simp [binA, binInt]
@[simp] theorem binA_shl (ck : CmpK) (k k' : IntKind) (a b : Int) : binA ck .shl (.int k a) (.int k' b) = if b < 0 then none else some (.int k (iShl k a b)) := by simp [binA]
@[simp] theorem binA_shr (ck : CmpK) (k k' : IntKind) (a b : Int) : binA ck .shr (.int k a) (.int k' b) = if b < 0 then none else some (.int k (iShr k a b)) := by simp [binA]
@[simp] theorem binA_str_eql (ck : CmpK) (a b : List UInt8) : binA ck .eql (.str a) (.str b) = some (.bool (a == b)) := by simp [binA, binStr]
@[simp] theorem binA_str_neq (ck : CmpK) (a b : List UInt8) : binA ck .neq (.str a) (.str b) = some (.bool (!(a == b))) := by simp [binA, binStr]
theorem binA_str_add {ck : CmpK} {a b : List UInt8} (hl : a.length + b.length ≤ 9223372036854775807) : binA ck .add (.str a) (.str b) = some (.str (a ++ b)) := by
  simp only [binA, binStr]; rw [if_neg (by omega)]
@[simp] theorem binA_bool_eql (a b : Bool) : binA .bool .eql (.bool a) (.bool b) = some (.bool (a == b)) := rfl
@[simp] theorem binA_bool_neq (a b : Bool) : binA .bool .neq (.bool a) (.bool b) = some (.bool (!(a == b))) := rfl
@[simp] theorem binA_ptr_eql_nil (i o : Nat) : binA .ptr .eql (.ptr i o) .nilp = some (.bool false) := rfl
@[simp] theorem binA_ptr_neq_nil (i o : Nat) : binA .ptr .neq (.ptr i o) .nilp = some (.bool true) := rfl
@[simp] theorem binA_iptr_eql_nil (cs : List AV) : binA .ptr .eql (.iptr cs) .nilp = some (.bool false) := rfl
@[simp] theorem binA_iptr_neq_nil (cs : List AV) : binA .ptr .neq (.iptr cs) .nilp = some (.bool true) := rfl
@[simp] theorem binA_nil_eql_nil : binA .ptr .eql .nilp .nilp = some (.bool true) := rfl
@[simp] theorem binA_nil_neq_nil : binA .ptr .neq .nilp .nilp = some (.bool false) := rfl
@[simp] theorem unA_not (b : Bool) : unA .not (.bool b) = some (.bool (!b)) := rfl
@[simp] theorem unA_not_unkb : unA .not .unkb = some .unkb := rfl
@[simp] theorem unA_neg (k : IntKind) (n : Int) : unA .neg (.int k n) = some (.int k (k.wrap (0 - n))) := rfl

theorem wrap_i64 {n : Int} (h : -9223372036854775808 ≤ n ∧ n ≤ 9223372036854775807) : IntKind.i64.wrap n = n := by rw [IntKind.wrap_i64]; omega
end

/-! ### Objects that stay -/
/-- Between two heaps nothing was turned but the objects in S. -/
structure Keeps (h h' : AHeap) (S : Nat → Prop) : Prop where
  next : h.next ≤ h'.next
  objs : ∀ i, i < h.next → ¬ S i → h'.objs i = h.objs i

theorem Keeps.refl (h : AHeap) (S : Nat → Prop) : Keeps h h S := ⟨Nat.le_refl _, fun _ _ _ => rfl⟩
theorem Keeps.trans {h h' h'' : AHeap} {S T : Nat → Prop} (a : Keeps h h' S) (b : Keeps h' h'' T) (hT : ∀ i, i < h.next → T i → S i) : Keeps h h'' S :=
  ⟨Nat.le_trans a.next b.next, fun i hi hs => (b.objs i (Nat.lt_of_lt_of_le hi a.next) fun ht => hs (hT i hi ht)).trans (a.objs i hi hs)⟩
theorem Keeps.mono {h h' : AHeap} {S T : Nat → Prop} (a : Keeps h h' S) (hS : ∀ i, S i → T i) : Keeps h h' T := ⟨a.next, fun i hi hs => a.objs i hi fun x => hs (hS i x)⟩
theorem Keeps.put (h : AHeap) (id : Nat) (o : AObj) : Keeps h (h.put id o) (fun i => i = id) := ⟨Nat.le_refl _, fun i _ hi => by simp [hi]⟩
theorem Keeps.kill (h : AHeap) (id : Nat) : Keeps h (h.kill id) (fun i => i = id) := ⟨Nat.le_refl _, fun i _ hi => by simp [hi]⟩
theorem Keeps.push (h : AHeap) (o : AObj) : Keeps h (h.push o) (fun _ => False) := ⟨Nat.le_succ _, fun i hi _ => by simp; omega⟩

end Go.Abs
