/- Own texts, merged: CdRefI0, CdRefI1, CdRefI2, CdRefI3, CdRefI4, CdRefI, CdRefG, CdRefH, CdRefS, CdBoth, CdEqu, ClMath, ClBits. -/
import Derived.Test.YtopfjochppdnfaaDoorM6
set_option linter.unusedVariables false
set_option linter.unusedSimpArgs false
section
/- What the two rows, and two more, of the document's instr hold. -/
set_option maxRecDepth 100000
set_option maxHeartbeats 4000000
namespace Go.Proofs.YtopfjochppdnfaaDoor
open Go.Abs
theorem ri_facts {h H : AHeap} {b : Bd} {x : In} (o1 : H.objs h.next = some (.row 51 b.cells)) (o2 : H.objs (h.next + 1) = some (.row 58 x.cells)) (nx : H.next = h.next + 2) (kH : Keeps h H (fun _ => False)) :
    (∀ (off : Nat) (q : Option Nat) (K : AV → Prop), pLoad q (.ptr h.next off) H K = pCells q b.cells off K) ∧
    (∀ (off : Nat) (q : Option Nat) (K : AV → Prop), pLoad q (.ptr (h.next + 1) off) H K = pCells q x.cells off K) ∧
    (∀ (off : Nat) (q : Option Nat) (K : AV → Prop), pLoad q (.ptr h.next off) ((H.push (AObj.row 69 [AV.int IntKind.i64 0, AV.int IntKind.i64 0, AV.bool false])).push (AObj.row 69 [AV.int IntKind.i64 0, AV.int IntKind.i64 0, AV.bool false])) K = pCells q b.cells off K) ∧
    (∀ (off : Nat) (q : Option Nat) (K : AV → Prop), pLoad q (.ptr (h.next + 1) off) ((H.push (AObj.row 69 [AV.int IntKind.i64 0, AV.int IntKind.i64 0, AV.bool false])).push (AObj.row 69 [AV.int IntKind.i64 0, AV.int IntKind.i64 0, AV.bool false])) K = pCells q x.cells off K) ∧
    (∀ (d : Lo) (K : AHeap → Prop), pStore 3 (.ptr H.next 0) (.agg d.cells) ((H.push (AObj.row 69 [AV.int IntKind.i64 0, AV.int IntKind.i64 0, AV.bool false])).push (AObj.row 69 [AV.int IntKind.i64 0, AV.int IntKind.i64 0, AV.bool false])) K = K (((H.push (AObj.row 69 [AV.int IntKind.i64 0, AV.int IntKind.i64 0, AV.bool false])).push (AObj.row 69 [AV.int IntKind.i64 0, AV.int IntKind.i64 0, AV.bool false])).put H.next (.row 69 d.cells))) ∧
    (∀ (d : Lo) (off : Nat) (q : Option Nat) (K : AV → Prop), pLoad q (.ptr h.next off) (((H.push (AObj.row 69 [AV.int IntKind.i64 0, AV.int IntKind.i64 0, AV.bool false])).push (AObj.row 69 [AV.int IntKind.i64 0, AV.int IntKind.i64 0, AV.bool false])).put H.next (.row 69 d.cells)) K = pCells q b.cells off K) ∧
    (∀ (d : Lo) (off : Nat) (q : Option Nat) (K : AV → Prop), pLoad q (.ptr (h.next + 1) off) (((H.push (AObj.row 69 [AV.int IntKind.i64 0, AV.int IntKind.i64 0, AV.bool false])).push (AObj.row 69 [AV.int IntKind.i64 0, AV.int IntKind.i64 0, AV.bool false])).put H.next (.row 69 d.cells)) K = pCells q x.cells off K) ∧
    (∀ (d : Lo) (off : Nat) (q : Option Nat) (K : AV → Prop), pLoad q (.ptr H.next off) (((H.push (AObj.row 69 [AV.int IntKind.i64 0, AV.int IntKind.i64 0, AV.bool false])).push (AObj.row 69 [AV.int IntKind.i64 0, AV.int IntKind.i64 0, AV.bool false])).put H.next (.row 69 d.cells)) K = pCells q d.cells off K) ∧
    (∀ (s : Lo) (K : AHeap → Prop), pStore 3 (.ptr (H.push (AObj.row 69 [AV.int IntKind.i64 0, AV.int IntKind.i64 0, AV.bool false])).next 0) (.agg s.cells) ((H.push (AObj.row 69 [AV.int IntKind.i64 0, AV.int IntKind.i64 0, AV.bool false])).push (AObj.row 69 [AV.int IntKind.i64 0, AV.int IntKind.i64 0, AV.bool false])) K = K (((H.push (AObj.row 69 [AV.int IntKind.i64 0, AV.int IntKind.i64 0, AV.bool false])).push (AObj.row 69 [AV.int IntKind.i64 0, AV.int IntKind.i64 0, AV.bool false])).put (H.push (AObj.row 69 [AV.int IntKind.i64 0, AV.int IntKind.i64 0, AV.bool false])).next (.row 69 s.cells))) ∧
    (∀ (s : Lo) (off : Nat) (q : Option Nat) (K : AV → Prop), pLoad q (.ptr h.next off) (((H.push (AObj.row 69 [AV.int IntKind.i64 0, AV.int IntKind.i64 0, AV.bool false])).push (AObj.row 69 [AV.int IntKind.i64 0, AV.int IntKind.i64 0, AV.bool false])).put (H.push (AObj.row 69 [AV.int IntKind.i64 0, AV.int IntKind.i64 0, AV.bool false])).next (.row 69 s.cells)) K = pCells q b.cells off K) ∧
    (∀ (s : Lo) (off : Nat) (q : Option Nat) (K : AV → Prop), pLoad q (.ptr (h.next + 1) off) (((H.push (AObj.row 69 [AV.int IntKind.i64 0, AV.int IntKind.i64 0, AV.bool false])).push (AObj.row 69 [AV.int IntKind.i64 0, AV.int IntKind.i64 0, AV.bool false])).put (H.push (AObj.row 69 [AV.int IntKind.i64 0, AV.int IntKind.i64 0, AV.bool false])).next (.row 69 s.cells)) K = pCells q x.cells off K) ∧
    (∀ (s : Lo) (off : Nat) (q : Option Nat) (K : AV → Prop), pLoad q (.ptr (H.push (AObj.row 69 [AV.int IntKind.i64 0, AV.int IntKind.i64 0, AV.bool false])).next off) (((H.push (AObj.row 69 [AV.int IntKind.i64 0, AV.int IntKind.i64 0, AV.bool false])).push (AObj.row 69 [AV.int IntKind.i64 0, AV.int IntKind.i64 0, AV.bool false])).put (H.push (AObj.row 69 [AV.int IntKind.i64 0, AV.int IntKind.i64 0, AV.bool false])).next (.row 69 s.cells)) K = pCells q s.cells off K) ∧
    (∀ (d : Lo) (s : Lo) (K : AHeap → Prop), pStore 3 (.ptr (H.push (AObj.row 69 [AV.int IntKind.i64 0, AV.int IntKind.i64 0, AV.bool false])).next 0) (.agg s.cells) (((H.push (AObj.row 69 [AV.int IntKind.i64 0, AV.int IntKind.i64 0, AV.bool false])).push (AObj.row 69 [AV.int IntKind.i64 0, AV.int IntKind.i64 0, AV.bool false])).put H.next (.row 69 d.cells)) K = K ((((H.push (AObj.row 69 [AV.int IntKind.i64 0, AV.int IntKind.i64 0, AV.bool false])).push (AObj.row 69 [AV.int IntKind.i64 0, AV.int IntKind.i64 0, AV.bool false])).put H.next (.row 69 d.cells)).put (H.push (AObj.row 69 [AV.int IntKind.i64 0, AV.int IntKind.i64 0, AV.bool false])).next (.row 69 s.cells))) ∧
    (∀ (d : Lo) (s : Lo) (off : Nat) (q : Option Nat) (K : AV → Prop), pLoad q (.ptr h.next off) ((((H.push (AObj.row 69 [AV.int IntKind.i64 0, AV.int IntKind.i64 0, AV.bool false])).push (AObj.row 69 [AV.int IntKind.i64 0, AV.int IntKind.i64 0, AV.bool false])).put H.next (.row 69 d.cells)).put (H.push (AObj.row 69 [AV.int IntKind.i64 0, AV.int IntKind.i64 0, AV.bool false])).next (.row 69 s.cells)) K = pCells q b.cells off K) ∧
    (∀ (d : Lo) (s : Lo) (off : Nat) (q : Option Nat) (K : AV → Prop), pLoad q (.ptr (h.next + 1) off) ((((H.push (AObj.row 69 [AV.int IntKind.i64 0, AV.int IntKind.i64 0, AV.bool false])).push (AObj.row 69 [AV.int IntKind.i64 0, AV.int IntKind.i64 0, AV.bool false])).put H.next (.row 69 d.cells)).put (H.push (AObj.row 69 [AV.int IntKind.i64 0, AV.int IntKind.i64 0, AV.bool false])).next (.row 69 s.cells)) K = pCells q x.cells off K) ∧
    (∀ (d : Lo) (s : Lo) (off : Nat) (q : Option Nat) (K : AV → Prop), pLoad q (.ptr H.next off) ((((H.push (AObj.row 69 [AV.int IntKind.i64 0, AV.int IntKind.i64 0, AV.bool false])).push (AObj.row 69 [AV.int IntKind.i64 0, AV.int IntKind.i64 0, AV.bool false])).put H.next (.row 69 d.cells)).put (H.push (AObj.row 69 [AV.int IntKind.i64 0, AV.int IntKind.i64 0, AV.bool false])).next (.row 69 s.cells)) K = pCells q d.cells off K) ∧
    (∀ (d : Lo) (s : Lo) (off : Nat) (q : Option Nat) (K : AV → Prop), pLoad q (.ptr (H.push (AObj.row 69 [AV.int IntKind.i64 0, AV.int IntKind.i64 0, AV.bool false])).next off) ((((H.push (AObj.row 69 [AV.int IntKind.i64 0, AV.int IntKind.i64 0, AV.bool false])).push (AObj.row 69 [AV.int IntKind.i64 0, AV.int IntKind.i64 0, AV.bool false])).put H.next (.row 69 d.cells)).put (H.push (AObj.row 69 [AV.int IntKind.i64 0, AV.int IntKind.i64 0, AV.bool false])).next (.row 69 s.cells)) K = pCells q s.cells off K) ∧
    (∀ (d : Lo) (s : Lo) (r : AObj) (off : Nat) (q : Option Nat) (K : AV → Prop), pLoad q (.ptr (h.next + 1) off) (((((H.push (AObj.row 69 [AV.int IntKind.i64 0, AV.int IntKind.i64 0, AV.bool false])).push (AObj.row 69 [AV.int IntKind.i64 0, AV.int IntKind.i64 0, AV.bool false])).put H.next (.row 69 d.cells)).put (H.push (AObj.row 69 [AV.int IntKind.i64 0, AV.int IntKind.i64 0, AV.bool false])).next (.row 69 s.cells)).push r) K = pCells q x.cells off K) ∧
    (∀ (d : Lo) (s : Lo) (r : AObj) (off : Nat) (q : Option Nat) (K : AV → Prop), pLoad q (.ptr H.next off) (((((H.push (AObj.row 69 [AV.int IntKind.i64 0, AV.int IntKind.i64 0, AV.bool false])).push (AObj.row 69 [AV.int IntKind.i64 0, AV.int IntKind.i64 0, AV.bool false])).put H.next (.row 69 d.cells)).put (H.push (AObj.row 69 [AV.int IntKind.i64 0, AV.int IntKind.i64 0, AV.bool false])).next (.row 69 s.cells)).push r) K = pCells q d.cells off K) ∧
    (∀ (s : Lo) (r : AObj) (off : Nat) (q : Option Nat) (K : AV → Prop), pLoad q (.ptr (h.next + 1) off) ((((H.push (AObj.row 69 [AV.int IntKind.i64 0, AV.int IntKind.i64 0, AV.bool false])).push (AObj.row 69 [AV.int IntKind.i64 0, AV.int IntKind.i64 0, AV.bool false])).put (H.push (AObj.row 69 [AV.int IntKind.i64 0, AV.int IntKind.i64 0, AV.bool false])).next (.row 69 s.cells)).push r) K = pCells q x.cells off K) ∧
    (∀ (d s : Lo) (r : AObj), Keeps h (((((H.push (AObj.row 69 [AV.int IntKind.i64 0, AV.int IntKind.i64 0, AV.bool false])).push (AObj.row 69 [AV.int IntKind.i64 0, AV.int IntKind.i64 0, AV.bool false])).put H.next (.row 69 d.cells)).put (H.push (AObj.row 69 [AV.int IntKind.i64 0, AV.int IntKind.i64 0, AV.bool false])).next (.row 69 s.cells)).push r) (fun _ => False)) ∧
    (∀ (s : Lo) (r : AObj), Keeps h ((((H.push (AObj.row 69 [AV.int IntKind.i64 0, AV.int IntKind.i64 0, AV.bool false])).push (AObj.row 69 [AV.int IntKind.i64 0, AV.int IntKind.i64 0, AV.bool false])).put (H.push (AObj.row 69 [AV.int IntKind.i64 0, AV.int IntKind.i64 0, AV.bool false])).next (.row 69 s.cells)).push r) (fun _ => False)) ∧
    (Keeps h ((H.push (AObj.row 69 [AV.int IntKind.i64 0, AV.int IntKind.i64 0, AV.bool false])).push (AObj.row 69 [AV.int IntKind.i64 0, AV.int IntKind.i64 0, AV.bool false])) (fun _ => False)) ∧
    (∀ d : Lo, Keeps h (((H.push (AObj.row 69 [AV.int IntKind.i64 0, AV.int IntKind.i64 0, AV.bool false])).push (AObj.row 69 [AV.int IntKind.i64 0, AV.int IntKind.i64 0, AV.bool false])).put H.next (.row 69 d.cells)) (fun _ => False)) ∧
    (∀ s : Lo, Keeps h (((H.push (AObj.row 69 [AV.int IntKind.i64 0, AV.int IntKind.i64 0, AV.bool false])).push (AObj.row 69 [AV.int IntKind.i64 0, AV.int IntKind.i64 0, AV.bool false])).put (H.push (AObj.row 69 [AV.int IntKind.i64 0, AV.int IntKind.i64 0, AV.bool false])).next (.row 69 s.cells)) (fun _ => False)) ∧
    (∀ d s : Lo, Keeps h ((((H.push (AObj.row 69 [AV.int IntKind.i64 0, AV.int IntKind.i64 0, AV.bool false])).push (AObj.row 69 [AV.int IntKind.i64 0, AV.int IntKind.i64 0, AV.bool false])).put H.next (.row 69 d.cells)).put (H.push (AObj.row 69 [AV.int IntKind.i64 0, AV.int IntKind.i64 0, AV.bool false])).next (.row 69 s.cells)) (fun _ => False)) := by
  have l1 : ∀ (off : Nat) (q : Option Nat) (K : AV → Prop), pLoad q (.ptr h.next off) H K = pCells q b.cells off K := fun off q K => pLoad_ptr o1 q K
  have l2 : ∀ (off : Nat) (q : Option Nat) (K : AV → Prop), pLoad q (.ptr (h.next + 1) off) H K = pCells q x.cells off K := fun off q K => pLoad_ptr o2 q K
  have n1 : ¬ (h.next = h.next + 2 + 1) := by omega
  have n2 : ¬ (h.next + 1 = h.next + 2 + 1) := by omega
  have n3 : ¬ (h.next + 2 = h.next + 2 + 1) := by omega
  have g0 : ∀ (off : Nat) (q : Option Nat) (K : AV → Prop), pLoad q (.ptr h.next off) ((H.push (AObj.row 69 [AV.int IntKind.i64 0, AV.int IntKind.i64 0, AV.bool false])).push (AObj.row 69 [AV.int IntKind.i64 0, AV.int IntKind.i64 0, AV.bool false])) K = pCells q b.cells off K := fun  off q K => pLoad_ptr (ty := 51) (by simp [o1, o2, nx, n1, n2, n3]) q K
  have g1 : ∀ (off : Nat) (q : Option Nat) (K : AV → Prop), pLoad q (.ptr (h.next + 1) off) ((H.push (AObj.row 69 [AV.int IntKind.i64 0, AV.int IntKind.i64 0, AV.bool false])).push (AObj.row 69 [AV.int IntKind.i64 0, AV.int IntKind.i64 0, AV.bool false])) K = pCells q x.cells off K := fun  off q K => pLoad_ptr (ty := 58) (by simp [o1, o2, nx, n1, n2, n3]) q K
  have std : ∀ (d : Lo) (K : AHeap → Prop), pStore 3 (.ptr H.next 0) (.agg d.cells) ((H.push (AObj.row 69 [AV.int IntKind.i64 0, AV.int IntKind.i64 0, AV.bool false])).push (AObj.row 69 [AV.int IntKind.i64 0, AV.int IntKind.i64 0, AV.bool false])) K = K (((H.push (AObj.row 69 [AV.int IntKind.i64 0, AV.int IntKind.i64 0, AV.bool false])).push (AObj.row 69 [AV.int IntKind.i64 0, AV.int IntKind.i64 0, AV.bool false])).put H.next (.row 69 d.cells)) := fun d K => by simp [pStore, nx, Api_Local.cells]
  have dd0 : ∀ (d : Lo) (off : Nat) (q : Option Nat) (K : AV → Prop), pLoad q (.ptr h.next off) (((H.push (AObj.row 69 [AV.int IntKind.i64 0, AV.int IntKind.i64 0, AV.bool false])).push (AObj.row 69 [AV.int IntKind.i64 0, AV.int IntKind.i64 0, AV.bool false])).put H.next (.row 69 d.cells)) K = pCells q b.cells off K := fun d off q K => pLoad_ptr (ty := 51) (by simp [o1, o2, nx, n1, n2, n3]) q K
  have dd1 : ∀ (d : Lo) (off : Nat) (q : Option Nat) (K : AV → Prop), pLoad q (.ptr (h.next + 1) off) (((H.push (AObj.row 69 [AV.int IntKind.i64 0, AV.int IntKind.i64 0, AV.bool false])).push (AObj.row 69 [AV.int IntKind.i64 0, AV.int IntKind.i64 0, AV.bool false])).put H.next (.row 69 d.cells)) K = pCells q x.cells off K := fun d off q K => pLoad_ptr (ty := 58) (by simp [o1, o2, nx, n1, n2, n3]) q K
  have dd3 : ∀ (d : Lo) (off : Nat) (q : Option Nat) (K : AV → Prop), pLoad q (.ptr H.next off) (((H.push (AObj.row 69 [AV.int IntKind.i64 0, AV.int IntKind.i64 0, AV.bool false])).push (AObj.row 69 [AV.int IntKind.i64 0, AV.int IntKind.i64 0, AV.bool false])).put H.next (.row 69 d.cells)) K = pCells q d.cells off K := fun d off q K => pLoad_ptr (ty := 69) (by simp [o1, o2, nx, n1, n2, n3]) q K
  have sts : ∀ (s : Lo) (K : AHeap → Prop), pStore 3 (.ptr (H.push (AObj.row 69 [AV.int IntKind.i64 0, AV.int IntKind.i64 0, AV.bool false])).next 0) (.agg s.cells) ((H.push (AObj.row 69 [AV.int IntKind.i64 0, AV.int IntKind.i64 0, AV.bool false])).push (AObj.row 69 [AV.int IntKind.i64 0, AV.int IntKind.i64 0, AV.bool false])) K = K (((H.push (AObj.row 69 [AV.int IntKind.i64 0, AV.int IntKind.i64 0, AV.bool false])).push (AObj.row 69 [AV.int IntKind.i64 0, AV.int IntKind.i64 0, AV.bool false])).put (H.push (AObj.row 69 [AV.int IntKind.i64 0, AV.int IntKind.i64 0, AV.bool false])).next (.row 69 s.cells)) := fun s K => by simp [pStore, nx, Api_Local.cells]
  have ss0 : ∀ (s : Lo) (off : Nat) (q : Option Nat) (K : AV → Prop), pLoad q (.ptr h.next off) (((H.push (AObj.row 69 [AV.int IntKind.i64 0, AV.int IntKind.i64 0, AV.bool false])).push (AObj.row 69 [AV.int IntKind.i64 0, AV.int IntKind.i64 0, AV.bool false])).put (H.push (AObj.row 69 [AV.int IntKind.i64 0, AV.int IntKind.i64 0, AV.bool false])).next (.row 69 s.cells)) K = pCells q b.cells off K := fun s off q K => pLoad_ptr (ty := 51) (by simp [o1, o2, nx, n1, n2, n3]) q K
  have ss1 : ∀ (s : Lo) (off : Nat) (q : Option Nat) (K : AV → Prop), pLoad q (.ptr (h.next + 1) off) (((H.push (AObj.row 69 [AV.int IntKind.i64 0, AV.int IntKind.i64 0, AV.bool false])).push (AObj.row 69 [AV.int IntKind.i64 0, AV.int IntKind.i64 0, AV.bool false])).put (H.push (AObj.row 69 [AV.int IntKind.i64 0, AV.int IntKind.i64 0, AV.bool false])).next (.row 69 s.cells)) K = pCells q x.cells off K := fun s off q K => pLoad_ptr (ty := 58) (by simp [o1, o2, nx, n1, n2, n3]) q K
  have ss4 : ∀ (s : Lo) (off : Nat) (q : Option Nat) (K : AV → Prop), pLoad q (.ptr (H.push (AObj.row 69 [AV.int IntKind.i64 0, AV.int IntKind.i64 0, AV.bool false])).next off) (((H.push (AObj.row 69 [AV.int IntKind.i64 0, AV.int IntKind.i64 0, AV.bool false])).push (AObj.row 69 [AV.int IntKind.i64 0, AV.int IntKind.i64 0, AV.bool false])).put (H.push (AObj.row 69 [AV.int IntKind.i64 0, AV.int IntKind.i64 0, AV.bool false])).next (.row 69 s.cells)) K = pCells q s.cells off K := fun s off q K => pLoad_ptr (ty := 69) (by simp [o1, o2, nx, n1, n2, n3]) q K
  have stds : ∀ (d : Lo) (s : Lo) (K : AHeap → Prop), pStore 3 (.ptr (H.push (AObj.row 69 [AV.int IntKind.i64 0, AV.int IntKind.i64 0, AV.bool false])).next 0) (.agg s.cells) (((H.push (AObj.row 69 [AV.int IntKind.i64 0, AV.int IntKind.i64 0, AV.bool false])).push (AObj.row 69 [AV.int IntKind.i64 0, AV.int IntKind.i64 0, AV.bool false])).put H.next (.row 69 d.cells)) K = K ((((H.push (AObj.row 69 [AV.int IntKind.i64 0, AV.int IntKind.i64 0, AV.bool false])).push (AObj.row 69 [AV.int IntKind.i64 0, AV.int IntKind.i64 0, AV.bool false])).put H.next (.row 69 d.cells)).put (H.push (AObj.row 69 [AV.int IntKind.i64 0, AV.int IntKind.i64 0, AV.bool false])).next (.row 69 s.cells)) := fun d s K => by simp [pStore, nx, Api_Local.cells]
  have ds0 : ∀ (d : Lo) (s : Lo) (off : Nat) (q : Option Nat) (K : AV → Prop), pLoad q (.ptr h.next off) ((((H.push (AObj.row 69 [AV.int IntKind.i64 0, AV.int IntKind.i64 0, AV.bool false])).push (AObj.row 69 [AV.int IntKind.i64 0, AV.int IntKind.i64 0, AV.bool false])).put H.next (.row 69 d.cells)).put (H.push (AObj.row 69 [AV.int IntKind.i64 0, AV.int IntKind.i64 0, AV.bool false])).next (.row 69 s.cells)) K = pCells q b.cells off K := fun d s off q K => pLoad_ptr (ty := 51) (by simp [o1, o2, nx, n1, n2, n3]) q K
  have ds1 : ∀ (d : Lo) (s : Lo) (off : Nat) (q : Option Nat) (K : AV → Prop), pLoad q (.ptr (h.next + 1) off) ((((H.push (AObj.row 69 [AV.int IntKind.i64 0, AV.int IntKind.i64 0, AV.bool false])).push (AObj.row 69 [AV.int IntKind.i64 0, AV.int IntKind.i64 0, AV.bool false])).put H.next (.row 69 d.cells)).put (H.push (AObj.row 69 [AV.int IntKind.i64 0, AV.int IntKind.i64 0, AV.bool false])).next (.row 69 s.cells)) K = pCells q x.cells off K := fun d s off q K => pLoad_ptr (ty := 58) (by simp [o1, o2, nx, n1, n2, n3]) q K
  have ds3 : ∀ (d : Lo) (s : Lo) (off : Nat) (q : Option Nat) (K : AV → Prop), pLoad q (.ptr H.next off) ((((H.push (AObj.row 69 [AV.int IntKind.i64 0, AV.int IntKind.i64 0, AV.bool false])).push (AObj.row 69 [AV.int IntKind.i64 0, AV.int IntKind.i64 0, AV.bool false])).put H.next (.row 69 d.cells)).put (H.push (AObj.row 69 [AV.int IntKind.i64 0, AV.int IntKind.i64 0, AV.bool false])).next (.row 69 s.cells)) K = pCells q d.cells off K := fun d s off q K => pLoad_ptr (ty := 69) (by simp [o1, o2, nx, n1, n2, n3]) q K
  have ds4 : ∀ (d : Lo) (s : Lo) (off : Nat) (q : Option Nat) (K : AV → Prop), pLoad q (.ptr (H.push (AObj.row 69 [AV.int IntKind.i64 0, AV.int IntKind.i64 0, AV.bool false])).next off) ((((H.push (AObj.row 69 [AV.int IntKind.i64 0, AV.int IntKind.i64 0, AV.bool false])).push (AObj.row 69 [AV.int IntKind.i64 0, AV.int IntKind.i64 0, AV.bool false])).put H.next (.row 69 d.cells)).put (H.push (AObj.row 69 [AV.int IntKind.i64 0, AV.int IntKind.i64 0, AV.bool false])).next (.row 69 s.cells)) K = pCells q s.cells off K := fun d s off q K => pLoad_ptr (ty := 69) (by simp [o1, o2, nx, n1, n2, n3]) q K
  have n4 : ¬ (h.next + 1 = h.next + 2 + 2) := by omega
  have n5 : ¬ (h.next + 2 = h.next + 2 + 2) := by omega
  have px : ∀ (d : Lo) (s : Lo) (r : AObj) (off : Nat) (q : Option Nat) (K : AV → Prop), pLoad q (.ptr (h.next + 1) off) (((((H.push (AObj.row 69 [AV.int IntKind.i64 0, AV.int IntKind.i64 0, AV.bool false])).push (AObj.row 69 [AV.int IntKind.i64 0, AV.int IntKind.i64 0, AV.bool false])).put H.next (.row 69 d.cells)).put (H.push (AObj.row 69 [AV.int IntKind.i64 0, AV.int IntKind.i64 0, AV.bool false])).next (.row 69 s.cells)).push r) K = pCells q x.cells off K := fun d s r off q K => pLoad_ptr (ty := 58) (by simp [o1, o2, nx, n1, n2, n3, n4, n5]) q K
  have pd : ∀ (d : Lo) (s : Lo) (r : AObj) (off : Nat) (q : Option Nat) (K : AV → Prop), pLoad q (.ptr H.next off) (((((H.push (AObj.row 69 [AV.int IntKind.i64 0, AV.int IntKind.i64 0, AV.bool false])).push (AObj.row 69 [AV.int IntKind.i64 0, AV.int IntKind.i64 0, AV.bool false])).put H.next (.row 69 d.cells)).put (H.push (AObj.row 69 [AV.int IntKind.i64 0, AV.int IntKind.i64 0, AV.bool false])).next (.row 69 s.cells)).push r) K = pCells q d.cells off K := fun d s r off q K => pLoad_ptr (ty := 69) (by simp [o1, o2, nx, n1, n2, n3, n4, n5]) q K
  have qx : ∀ (s : Lo) (r : AObj) (off : Nat) (q : Option Nat) (K : AV → Prop), pLoad q (.ptr (h.next + 1) off) ((((H.push (AObj.row 69 [AV.int IntKind.i64 0, AV.int IntKind.i64 0, AV.bool false])).push (AObj.row 69 [AV.int IntKind.i64 0, AV.int IntKind.i64 0, AV.bool false])).put (H.push (AObj.row 69 [AV.int IntKind.i64 0, AV.int IntKind.i64 0, AV.bool false])).next (.row 69 s.cells)).push r) K = pCells q x.cells off K := fun s r off q K => pLoad_ptr (ty := 58) (by simp [o1, o2, nx, n1, n2, n3, n4, n5]) q K
  have kDSp : ∀ (d s : Lo) (r : AObj), Keeps h (((((H.push (AObj.row 69 [AV.int IntKind.i64 0, AV.int IntKind.i64 0, AV.bool false])).push (AObj.row 69 [AV.int IntKind.i64 0, AV.int IntKind.i64 0, AV.bool false])).put H.next (.row 69 d.cells)).put (H.push (AObj.row 69 [AV.int IntKind.i64 0, AV.int IntKind.i64 0, AV.bool false])).next (.row 69 s.cells)).push r) (fun _ => False) := fun d s r => (keeps_put (keeps_put ((kH.go (Keeps.one _ _)).go (Keeps.one _ _)) (by omega) _) (by simp; omega) _).go (Keeps.one _ _)
  have kSp : ∀ (s : Lo) (r : AObj), Keeps h ((((H.push (AObj.row 69 [AV.int IntKind.i64 0, AV.int IntKind.i64 0, AV.bool false])).push (AObj.row 69 [AV.int IntKind.i64 0, AV.int IntKind.i64 0, AV.bool false])).put (H.push (AObj.row 69 [AV.int IntKind.i64 0, AV.int IntKind.i64 0, AV.bool false])).next (.row 69 s.cells)).push r) (fun _ => False) := fun s r => (keeps_put ((kH.go (Keeps.one _ _)).go (Keeps.one _ _)) (by simp; omega) _).go (Keeps.one _ _)
  have kG : Keeps h ((H.push (AObj.row 69 [AV.int IntKind.i64 0, AV.int IntKind.i64 0, AV.bool false])).push (AObj.row 69 [AV.int IntKind.i64 0, AV.int IntKind.i64 0, AV.bool false])) (fun _ => False) := (kH.go (Keeps.one _ _)).go (Keeps.one _ _)
  have kD : ∀ d : Lo, Keeps h (((H.push (AObj.row 69 [AV.int IntKind.i64 0, AV.int IntKind.i64 0, AV.bool false])).push (AObj.row 69 [AV.int IntKind.i64 0, AV.int IntKind.i64 0, AV.bool false])).put H.next (.row 69 d.cells)) (fun _ => False) := fun d => keeps_put kG (by omega) _
  have kS : ∀ s : Lo, Keeps h (((H.push (AObj.row 69 [AV.int IntKind.i64 0, AV.int IntKind.i64 0, AV.bool false])).push (AObj.row 69 [AV.int IntKind.i64 0, AV.int IntKind.i64 0, AV.bool false])).put (H.push (AObj.row 69 [AV.int IntKind.i64 0, AV.int IntKind.i64 0, AV.bool false])).next (.row 69 s.cells)) (fun _ => False) := fun s => keeps_put kG (by simp; omega) _
  have kDS : ∀ d s : Lo, Keeps h ((((H.push (AObj.row 69 [AV.int IntKind.i64 0, AV.int IntKind.i64 0, AV.bool false])).push (AObj.row 69 [AV.int IntKind.i64 0, AV.int IntKind.i64 0, AV.bool false])).put H.next (.row 69 d.cells)).put (H.push (AObj.row 69 [AV.int IntKind.i64 0, AV.int IntKind.i64 0, AV.bool false])).next (.row 69 s.cells)) (fun _ => False) := fun d s => keeps_put (kD d) (by simp; omega) _
  exact ⟨l1, l2, g0, g1, std, dd0, dd1, dd3, sts, ss0, ss1, ss4, stds, ds0, ds1, ds3, ds4, px, pd, qx, kDSp, kSp, kG, kD, kS, kDS⟩
end Go.Proofs.YtopfjochppdnfaaDoor
end

section
/- What the document's instr computes, kind by kind. -/
set_option maxRecDepth 100000
set_option maxHeartbeats 4000000
namespace Go.Proofs.YtopfjochppdnfaaDoor
open Go.Abs
theorem ri_1 (c : Cd) (hc : c.ok) (hs : (slL c.Sections).length ≤ 1000000) (t a : Int) (b : Bd) (x : In) (hb : getI (slL c.Threads) t = some b) (hx : getI (slL b.Code) a = some x) (hsl : ∀ l ∈ slL b.Slots, localB c l = true)
    (hn : okI (slL b.Slots).length) (hit : okSl Api_Item.ok x.Items) (hix : okSl Api_Item.ok x.Index) (hitl : (slL x.Items).length ≤ 1000000) (hixl : (slL x.Index).length ≤ 1000000) (hcl : (slL b.Code).length ≤ 1000000) (hop : x.Op = 1) (h : AHeap) :
    CallsA Tryd.prog 39 [.agg c.cells, .int .i64 t, .int .i64 a] h (fun v h2 => v = .bool (instrB c t b x a && (decide (x.Op = 17) == decide (a = (slL b.Code).length - 1))) ∧ Keeps h h2 (fun _ => False)) := by
  have kind : ∀ n : Int, btw n (slL b.Slots).length = true → ((gD b.Slots n).Kind = 1 ∨ (gD b.Slots n).Kind = 3) → (gD b.Slots n).Rec = 0 := fun n hq hk => by
    have := hsl _ (getI_mem (gD_some hq))
    unfold localB at this
    rw [if_neg (by omega)] at this
    simp only [Bool.and_eq_true, decide_eq_true_eq] at this
    exact this.2
  have hl := hasS_len 1
  have nq : (hasS 1 == [63]) = false := rfl
  have f100 : (hasS 1).contains 100 = true := rfl
  have f115 : (hasS 1).contains 115 = false := rfl
  have f114 : (hasS 1).contains 114 = false := rfl
  have f110 : (hasS 1).contains 110 = false := rfl
  have f116 : (hasS 1).contains 116 = false := rfl
  have f105 : (hasS 1).contains 105 = true := rfl
  have f120 : (hasS 1).contains 120 = false := rfl
  have wl : IntKind.i64.wrap (((slL b.Code).length : Int) - 1) = ((slL b.Code).length : Int) - 1 := wrapI (by omega) (by omega)
  apply padlockref09_instr_wp
  (repeat (first | simp -dsimp -implicitDefEqProofs (disch := omega) only [↓rP, rQ, rO, rL, ↓reduceIte, Nat.reduceEqDiff, Nat.reduceAdd, Nat.reduceLeDiff, pBuild, fillA, ↓tyr, ixI hb, ixI hx] | refine Cut.go ?_))
  have e2 : (h.push (.row 51 b.cells)).next = h.next + 1 := rfl
  have o1 : ((h.push (.row 51 b.cells)).push (.row 58 x.cells)).objs h.next = some (.row 51 b.cells) := by simp
  have o2 : ((h.push (.row 51 b.cells)).push (.row 58 x.cells)).objs (h.next + 1) = some (.row 58 x.cells) := by simp
  have nx : ((h.push (.row 51 b.cells)).push (.row 58 x.cells)).next = h.next + 2 := rfl
  have kH : Keeps h ((h.push (.row 51 b.cells)).push (.row 58 x.cells)) (fun _ => False) := (Keeps.one _ _).go (Keeps.one _ _)
  rw [e2]
  generalize ((h.push (.row 51 b.cells)).push (.row 58 x.cells)) = H at *
  simp only [hop]
  obtain ⟨l1, l2, g0, g1, std, dd0, dd1, dd3, sts, ss0, ss1, ss4, stds, ds0, ds1, ds3, ds4, px, pd, qx, kDSp, kSp, kG, kD, kS, kDS⟩ := ri_facts o1 o2 nx kH
  refine CallsA.go (ref_Has_does 1 _) ?_
  repeat' (first | (simp -dsimp -implicitDefEqProofs only [↓rP, rQ, rL, ↓reduceIte, Nat.reduceEqDiff, Nat.reduceAdd, Nat.reduceLeDiff, pBuild, fillA, ↓tyr, Int.reduceBEq, Int.reduceBNe, Int.reduceLT, Int.reduceLE, decide_true, decide_false, f100, f115, f114, f110, f116, f105, f120, nq, hop, ↓l1, ↓l2, wl, ixI hb, ixI hx, ↓g0, ↓g1, ↓std, ↓dd0, ↓dd1, ↓dd3, ↓sts, ↓ss0, ↓ss1, ↓ss4, ↓stds, ↓ds0, ↓ds1, ↓ds3, ↓ds4, ↓px, ↓pd, ↓qx]) | with_reducible refine Cut.go ?_ | with_reducible refine CallsA.go (has_100 _ hl _) ?_ | with_reducible refine CallsA.go (has_115 _ hl _) ?_ | with_reducible refine CallsA.go (has_114 _ hl _) ?_ | with_reducible refine CallsA.go (has_110 _ hl _) ?_ | with_reducible refine CallsA.go (has_116 _ hl _) ?_ | with_reducible refine CallsA.go (has_105 _ hl _) ?_ | with_reducible refine CallsA.go (has_120 _ hl _) ?_ | with_reducible refine CallsA.go (ref_in_does _ _ _) ?_ | with_reducible refine CallsA.go (ref_Inside_p c hs _ _ _) ?_ | with_reducible refine CallsA.go (ref_Good_does _ hn _ hit hitl _) ?_ | with_reducible refine CallsA.go (ref_Good_does _ hn _ hix hixl _) ?_ | with_reducible refine ixB_go (by assumption) ?_ | unfold padlockref09_instr_wp_p1 | unfold padlockref09_instr_wp_p2 | unfold padlockref09_instr_wp_p3 | unfold padlockref09_instr_wp_p4 | unfold padlockref09_instr_wp_p5 | (with_reducible refine Split.intro (fun hq => ?_) (fun hq => ?_) <;> (try simp only [Bool.not_eq_true', Bool.not_eq_false'] at hq) <;> (try rw [hq])))
  all_goals clear l1 l2 g0 g1 std dd0 dd1 dd3 sts ss0 ss1 ss4 stds ds0 ds1 ds3 ds4 px pd qx o1 o2
  all_goals refine And.intro (congrArg AV.bool ?_) (by first | exact kH | exact kG | exact kD _ | exact kS _ | exact kDS _ _ | exact kDSp _ _ _ | exact kSp _ _)
  all_goals clear kH kG kD kS kDS kDSp kSp nx wl nq hl f100 f115 f114 f110 f116 f105 f120 e2 hb hx hcl hixl hitl hix hit hn hs hc
  all_goals have kd := kind x.Dst
  all_goals have ks := kind x.Src
  all_goals clear kind
  all_goals clear hsl
  all_goals simp_all [fieldO_eq, instrB, loadsB, storesB, borderB, plainB, goesB, itemsB, siteB, sameB, isB_btw, isB_not, List.length_pos_iff, gD_some, getI_no, site_iff]
  all_goals try omega
  all_goals try (rw [Bool.eq_iff_iff]; simp_all [beqI]; try omega)
  all_goals try (split <;> simp_all)
  all_goals try omega
theorem ri_11 (c : Cd) (hc : c.ok) (hs : (slL c.Sections).length ≤ 1000000) (t a : Int) (b : Bd) (x : In) (hb : getI (slL c.Threads) t = some b) (hx : getI (slL b.Code) a = some x) (hsl : ∀ l ∈ slL b.Slots, localB c l = true)
    (hn : okI (slL b.Slots).length) (hit : okSl Api_Item.ok x.Items) (hix : okSl Api_Item.ok x.Index) (hitl : (slL x.Items).length ≤ 1000000) (hixl : (slL x.Index).length ≤ 1000000) (hcl : (slL b.Code).length ≤ 1000000) (hop : x.Op = 11) (h : AHeap) :
    CallsA Tryd.prog 39 [.agg c.cells, .int .i64 t, .int .i64 a] h (fun v h2 => v = .bool (instrB c t b x a && (decide (x.Op = 17) == decide (a = (slL b.Code).length - 1))) ∧ Keeps h h2 (fun _ => False)) := by
  have kind : ∀ n : Int, btw n (slL b.Slots).length = true → ((gD b.Slots n).Kind = 1 ∨ (gD b.Slots n).Kind = 3) → (gD b.Slots n).Rec = 0 := fun n hq hk => by
    have := hsl _ (getI_mem (gD_some hq))
    unfold localB at this
    rw [if_neg (by omega)] at this
    simp only [Bool.and_eq_true, decide_eq_true_eq] at this
    exact this.2
  have hl := hasS_len 11
  have nq : (hasS 11 == [63]) = false := rfl
  have f100 : (hasS 11).contains 100 = false := rfl
  have f115 : (hasS 11).contains 115 = false := rfl
  have f114 : (hasS 11).contains 114 = false := rfl
  have f110 : (hasS 11).contains 110 = false := rfl
  have f116 : (hasS 11).contains 116 = false := rfl
  have f105 : (hasS 11).contains 105 = true := rfl
  have f120 : (hasS 11).contains 120 = false := rfl
  have wl : IntKind.i64.wrap (((slL b.Code).length : Int) - 1) = ((slL b.Code).length : Int) - 1 := wrapI (by omega) (by omega)
  apply padlockref09_instr_wp
  (repeat (first | simp -dsimp -implicitDefEqProofs (disch := omega) only [↓rP, rQ, rO, rL, ↓reduceIte, Nat.reduceEqDiff, Nat.reduceAdd, Nat.reduceLeDiff, pBuild, fillA, ↓tyr, ixI hb, ixI hx] | refine Cut.go ?_))
  have e2 : (h.push (.row 51 b.cells)).next = h.next + 1 := rfl
  have o1 : ((h.push (.row 51 b.cells)).push (.row 58 x.cells)).objs h.next = some (.row 51 b.cells) := by simp
  have o2 : ((h.push (.row 51 b.cells)).push (.row 58 x.cells)).objs (h.next + 1) = some (.row 58 x.cells) := by simp
  have nx : ((h.push (.row 51 b.cells)).push (.row 58 x.cells)).next = h.next + 2 := rfl
  have kH : Keeps h ((h.push (.row 51 b.cells)).push (.row 58 x.cells)) (fun _ => False) := (Keeps.one _ _).go (Keeps.one _ _)
  rw [e2]
  generalize ((h.push (.row 51 b.cells)).push (.row 58 x.cells)) = H at *
  simp only [hop]
  obtain ⟨l1, l2, g0, g1, std, dd0, dd1, dd3, sts, ss0, ss1, ss4, stds, ds0, ds1, ds3, ds4, px, pd, qx, kDSp, kSp, kG, kD, kS, kDS⟩ := ri_facts o1 o2 nx kH
  refine CallsA.go (ref_Has_does 11 _) ?_
  repeat' (first | (simp -dsimp -implicitDefEqProofs only [↓rP, rQ, rL, ↓reduceIte, Nat.reduceEqDiff, Nat.reduceAdd, Nat.reduceLeDiff, pBuild, fillA, ↓tyr, Int.reduceBEq, Int.reduceBNe, Int.reduceLT, Int.reduceLE, decide_true, decide_false, f100, f115, f114, f110, f116, f105, f120, nq, hop, ↓l1, ↓l2, wl, ixI hb, ixI hx, ↓g0, ↓g1, ↓std, ↓dd0, ↓dd1, ↓dd3, ↓sts, ↓ss0, ↓ss1, ↓ss4, ↓stds, ↓ds0, ↓ds1, ↓ds3, ↓ds4, ↓px, ↓pd, ↓qx]) | with_reducible refine Cut.go ?_ | with_reducible refine CallsA.go (has_100 _ hl _) ?_ | with_reducible refine CallsA.go (has_115 _ hl _) ?_ | with_reducible refine CallsA.go (has_114 _ hl _) ?_ | with_reducible refine CallsA.go (has_110 _ hl _) ?_ | with_reducible refine CallsA.go (has_116 _ hl _) ?_ | with_reducible refine CallsA.go (has_105 _ hl _) ?_ | with_reducible refine CallsA.go (has_120 _ hl _) ?_ | with_reducible refine CallsA.go (ref_in_does _ _ _) ?_ | with_reducible refine CallsA.go (ref_Inside_p c hs _ _ _) ?_ | with_reducible refine CallsA.go (ref_Good_does _ hn _ hit hitl _) ?_ | with_reducible refine CallsA.go (ref_Good_does _ hn _ hix hixl _) ?_ | with_reducible refine ixB_go (by assumption) ?_ | unfold padlockref09_instr_wp_p1 | unfold padlockref09_instr_wp_p2 | unfold padlockref09_instr_wp_p3 | unfold padlockref09_instr_wp_p4 | unfold padlockref09_instr_wp_p5 | (with_reducible refine Split.intro (fun hq => ?_) (fun hq => ?_) <;> (try simp only [Bool.not_eq_true', Bool.not_eq_false'] at hq) <;> (try rw [hq])))
  all_goals clear l1 l2 g0 g1 std dd0 dd1 dd3 sts ss0 ss1 ss4 stds ds0 ds1 ds3 ds4 px pd qx o1 o2
  all_goals refine And.intro (congrArg AV.bool ?_) (by first | exact kH | exact kG | exact kD _ | exact kS _ | exact kDS _ _ | exact kDSp _ _ _ | exact kSp _ _)
  all_goals clear kH kG kD kS kDS kDSp kSp nx wl nq hl f100 f115 f114 f110 f116 f105 f120 e2 hb hx hcl hixl hitl hix hit hn hs hc
  all_goals have kd := kind x.Dst
  all_goals have ks := kind x.Src
  all_goals clear kind
  all_goals clear hsl
  all_goals simp_all [fieldO_eq, instrB, loadsB, storesB, borderB, plainB, goesB, itemsB, siteB, sameB, isB_btw, isB_not, List.length_pos_iff, gD_some, getI_no, site_iff]
  all_goals try omega
  all_goals try (rw [Bool.eq_iff_iff]; simp_all [beqI]; try omega)
  all_goals try (split <;> simp_all)
  all_goals try omega
theorem ri_12 (c : Cd) (hc : c.ok) (hs : (slL c.Sections).length ≤ 1000000) (t a : Int) (b : Bd) (x : In) (hb : getI (slL c.Threads) t = some b) (hx : getI (slL b.Code) a = some x) (hsl : ∀ l ∈ slL b.Slots, localB c l = true)
    (hn : okI (slL b.Slots).length) (hit : okSl Api_Item.ok x.Items) (hix : okSl Api_Item.ok x.Index) (hitl : (slL x.Items).length ≤ 1000000) (hixl : (slL x.Index).length ≤ 1000000) (hcl : (slL b.Code).length ≤ 1000000) (hop : x.Op = 12) (h : AHeap) :
    CallsA Tryd.prog 39 [.agg c.cells, .int .i64 t, .int .i64 a] h (fun v h2 => v = .bool (instrB c t b x a && (decide (x.Op = 17) == decide (a = (slL b.Code).length - 1))) ∧ Keeps h h2 (fun _ => False)) := by
  have kind : ∀ n : Int, btw n (slL b.Slots).length = true → ((gD b.Slots n).Kind = 1 ∨ (gD b.Slots n).Kind = 3) → (gD b.Slots n).Rec = 0 := fun n hq hk => by
    have := hsl _ (getI_mem (gD_some hq))
    unfold localB at this
    rw [if_neg (by omega)] at this
    simp only [Bool.and_eq_true, decide_eq_true_eq] at this
    exact this.2
  have hl := hasS_len 12
  have nq : (hasS 12 == [63]) = false := rfl
  have f100 : (hasS 12).contains 100 = false := rfl
  have f115 : (hasS 12).contains 115 = false := rfl
  have f114 : (hasS 12).contains 114 = false := rfl
  have f110 : (hasS 12).contains 110 = false := rfl
  have f116 : (hasS 12).contains 116 = false := rfl
  have f105 : (hasS 12).contains 105 = true := rfl
  have f120 : (hasS 12).contains 120 = false := rfl
  have wl : IntKind.i64.wrap (((slL b.Code).length : Int) - 1) = ((slL b.Code).length : Int) - 1 := wrapI (by omega) (by omega)
  apply padlockref09_instr_wp
  (repeat (first | simp -dsimp -implicitDefEqProofs (disch := omega) only [↓rP, rQ, rO, rL, ↓reduceIte, Nat.reduceEqDiff, Nat.reduceAdd, Nat.reduceLeDiff, pBuild, fillA, ↓tyr, ixI hb, ixI hx] | refine Cut.go ?_))
  have e2 : (h.push (.row 51 b.cells)).next = h.next + 1 := rfl
  have o1 : ((h.push (.row 51 b.cells)).push (.row 58 x.cells)).objs h.next = some (.row 51 b.cells) := by simp
  have o2 : ((h.push (.row 51 b.cells)).push (.row 58 x.cells)).objs (h.next + 1) = some (.row 58 x.cells) := by simp
  have nx : ((h.push (.row 51 b.cells)).push (.row 58 x.cells)).next = h.next + 2 := rfl
  have kH : Keeps h ((h.push (.row 51 b.cells)).push (.row 58 x.cells)) (fun _ => False) := (Keeps.one _ _).go (Keeps.one _ _)
  rw [e2]
  generalize ((h.push (.row 51 b.cells)).push (.row 58 x.cells)) = H at *
  simp only [hop]
  obtain ⟨l1, l2, g0, g1, std, dd0, dd1, dd3, sts, ss0, ss1, ss4, stds, ds0, ds1, ds3, ds4, px, pd, qx, kDSp, kSp, kG, kD, kS, kDS⟩ := ri_facts o1 o2 nx kH
  refine CallsA.go (ref_Has_does 12 _) ?_
  repeat' (first | (simp -dsimp -implicitDefEqProofs only [↓rP, rQ, rL, ↓reduceIte, Nat.reduceEqDiff, Nat.reduceAdd, Nat.reduceLeDiff, pBuild, fillA, ↓tyr, Int.reduceBEq, Int.reduceBNe, Int.reduceLT, Int.reduceLE, decide_true, decide_false, f100, f115, f114, f110, f116, f105, f120, nq, hop, ↓l1, ↓l2, wl, ixI hb, ixI hx, ↓g0, ↓g1, ↓std, ↓dd0, ↓dd1, ↓dd3, ↓sts, ↓ss0, ↓ss1, ↓ss4, ↓stds, ↓ds0, ↓ds1, ↓ds3, ↓ds4, ↓px, ↓pd, ↓qx]) | with_reducible refine Cut.go ?_ | with_reducible refine CallsA.go (has_100 _ hl _) ?_ | with_reducible refine CallsA.go (has_115 _ hl _) ?_ | with_reducible refine CallsA.go (has_114 _ hl _) ?_ | with_reducible refine CallsA.go (has_110 _ hl _) ?_ | with_reducible refine CallsA.go (has_116 _ hl _) ?_ | with_reducible refine CallsA.go (has_105 _ hl _) ?_ | with_reducible refine CallsA.go (has_120 _ hl _) ?_ | with_reducible refine CallsA.go (ref_in_does _ _ _) ?_ | with_reducible refine CallsA.go (ref_Inside_p c hs _ _ _) ?_ | with_reducible refine CallsA.go (ref_Good_does _ hn _ hit hitl _) ?_ | with_reducible refine CallsA.go (ref_Good_does _ hn _ hix hixl _) ?_ | with_reducible refine ixB_go (by assumption) ?_ | unfold padlockref09_instr_wp_p1 | unfold padlockref09_instr_wp_p2 | unfold padlockref09_instr_wp_p3 | unfold padlockref09_instr_wp_p4 | unfold padlockref09_instr_wp_p5 | (with_reducible refine Split.intro (fun hq => ?_) (fun hq => ?_) <;> (try simp only [Bool.not_eq_true', Bool.not_eq_false'] at hq) <;> (try rw [hq])))
  all_goals clear l1 l2 g0 g1 std dd0 dd1 dd3 sts ss0 ss1 ss4 stds ds0 ds1 ds3 ds4 px pd qx o1 o2
  all_goals refine And.intro (congrArg AV.bool ?_) (by first | exact kH | exact kG | exact kD _ | exact kS _ | exact kDS _ _ | exact kDSp _ _ _ | exact kSp _ _)
  all_goals clear kH kG kD kS kDS kDSp kSp nx wl nq hl f100 f115 f114 f110 f116 f105 f120 e2 hb hx hcl hixl hitl hix hit hn hs hc
  all_goals have kd := kind x.Dst
  all_goals have ks := kind x.Src
  all_goals clear kind
  all_goals clear hsl
  all_goals simp_all [fieldO_eq, instrB, loadsB, storesB, borderB, plainB, goesB, itemsB, siteB, sameB, isB_btw, isB_not, List.length_pos_iff, gD_some, getI_no, site_iff]
  all_goals try omega
  all_goals try (rw [Bool.eq_iff_iff]; simp_all [beqI]; try omega)
  all_goals try (split <;> simp_all)
  all_goals try omega
theorem ri_13 (c : Cd) (hc : c.ok) (hs : (slL c.Sections).length ≤ 1000000) (t a : Int) (b : Bd) (x : In) (hb : getI (slL c.Threads) t = some b) (hx : getI (slL b.Code) a = some x) (hsl : ∀ l ∈ slL b.Slots, localB c l = true)
    (hn : okI (slL b.Slots).length) (hit : okSl Api_Item.ok x.Items) (hix : okSl Api_Item.ok x.Index) (hitl : (slL x.Items).length ≤ 1000000) (hixl : (slL x.Index).length ≤ 1000000) (hcl : (slL b.Code).length ≤ 1000000) (hop : x.Op = 13) (h : AHeap) :
    CallsA Tryd.prog 39 [.agg c.cells, .int .i64 t, .int .i64 a] h (fun v h2 => v = .bool (instrB c t b x a && (decide (x.Op = 17) == decide (a = (slL b.Code).length - 1))) ∧ Keeps h h2 (fun _ => False)) := by
  have kind : ∀ n : Int, btw n (slL b.Slots).length = true → ((gD b.Slots n).Kind = 1 ∨ (gD b.Slots n).Kind = 3) → (gD b.Slots n).Rec = 0 := fun n hq hk => by
    have := hsl _ (getI_mem (gD_some hq))
    unfold localB at this
    rw [if_neg (by omega)] at this
    simp only [Bool.and_eq_true, decide_eq_true_eq] at this
    exact this.2
  have hl := hasS_len 13
  have nq : (hasS 13 == [63]) = false := rfl
  have f100 : (hasS 13).contains 100 = false := rfl
  have f115 : (hasS 13).contains 115 = false := rfl
  have f114 : (hasS 13).contains 114 = false := rfl
  have f110 : (hasS 13).contains 110 = false := rfl
  have f116 : (hasS 13).contains 116 = true := rfl
  have f105 : (hasS 13).contains 105 = false := rfl
  have f120 : (hasS 13).contains 120 = false := rfl
  have wl : IntKind.i64.wrap (((slL b.Code).length : Int) - 1) = ((slL b.Code).length : Int) - 1 := wrapI (by omega) (by omega)
  apply padlockref09_instr_wp
  (repeat (first | simp -dsimp -implicitDefEqProofs (disch := omega) only [↓rP, rQ, rO, rL, ↓reduceIte, Nat.reduceEqDiff, Nat.reduceAdd, Nat.reduceLeDiff, pBuild, fillA, ↓tyr, ixI hb, ixI hx] | refine Cut.go ?_))
  have e2 : (h.push (.row 51 b.cells)).next = h.next + 1 := rfl
  have o1 : ((h.push (.row 51 b.cells)).push (.row 58 x.cells)).objs h.next = some (.row 51 b.cells) := by simp
  have o2 : ((h.push (.row 51 b.cells)).push (.row 58 x.cells)).objs (h.next + 1) = some (.row 58 x.cells) := by simp
  have nx : ((h.push (.row 51 b.cells)).push (.row 58 x.cells)).next = h.next + 2 := rfl
  have kH : Keeps h ((h.push (.row 51 b.cells)).push (.row 58 x.cells)) (fun _ => False) := (Keeps.one _ _).go (Keeps.one _ _)
  rw [e2]
  generalize ((h.push (.row 51 b.cells)).push (.row 58 x.cells)) = H at *
  simp only [hop]
  obtain ⟨l1, l2, g0, g1, std, dd0, dd1, dd3, sts, ss0, ss1, ss4, stds, ds0, ds1, ds3, ds4, px, pd, qx, kDSp, kSp, kG, kD, kS, kDS⟩ := ri_facts o1 o2 nx kH
  refine CallsA.go (ref_Has_does 13 _) ?_
  repeat' (first | (simp -dsimp -implicitDefEqProofs only [↓rP, rQ, rL, ↓reduceIte, Nat.reduceEqDiff, Nat.reduceAdd, Nat.reduceLeDiff, pBuild, fillA, ↓tyr, Int.reduceBEq, Int.reduceBNe, Int.reduceLT, Int.reduceLE, decide_true, decide_false, f100, f115, f114, f110, f116, f105, f120, nq, hop, ↓l1, ↓l2, wl, ixI hb, ixI hx, ↓g0, ↓g1, ↓std, ↓dd0, ↓dd1, ↓dd3, ↓sts, ↓ss0, ↓ss1, ↓ss4, ↓stds, ↓ds0, ↓ds1, ↓ds3, ↓ds4, ↓px, ↓pd, ↓qx]) | with_reducible refine Cut.go ?_ | with_reducible refine CallsA.go (has_100 _ hl _) ?_ | with_reducible refine CallsA.go (has_115 _ hl _) ?_ | with_reducible refine CallsA.go (has_114 _ hl _) ?_ | with_reducible refine CallsA.go (has_110 _ hl _) ?_ | with_reducible refine CallsA.go (has_116 _ hl _) ?_ | with_reducible refine CallsA.go (has_105 _ hl _) ?_ | with_reducible refine CallsA.go (has_120 _ hl _) ?_ | with_reducible refine CallsA.go (ref_in_does _ _ _) ?_ | with_reducible refine CallsA.go (ref_Inside_p c hs _ _ _) ?_ | with_reducible refine CallsA.go (ref_Good_does _ hn _ hit hitl _) ?_ | with_reducible refine CallsA.go (ref_Good_does _ hn _ hix hixl _) ?_ | with_reducible refine ixB_go (by assumption) ?_ | unfold padlockref09_instr_wp_p1 | unfold padlockref09_instr_wp_p2 | unfold padlockref09_instr_wp_p3 | unfold padlockref09_instr_wp_p4 | unfold padlockref09_instr_wp_p5 | (with_reducible refine Split.intro (fun hq => ?_) (fun hq => ?_) <;> (try simp only [Bool.not_eq_true', Bool.not_eq_false'] at hq) <;> (try rw [hq])))
  all_goals clear l1 l2 g0 g1 std dd0 dd1 dd3 sts ss0 ss1 ss4 stds ds0 ds1 ds3 ds4 px pd qx o1 o2
  all_goals refine And.intro (congrArg AV.bool ?_) (by first | exact kH | exact kG | exact kD _ | exact kS _ | exact kDS _ _ | exact kDSp _ _ _ | exact kSp _ _)
  all_goals clear kH kG kD kS kDS kDSp kSp nx wl nq hl f100 f115 f114 f110 f116 f105 f120 e2 hb hx hcl hixl hitl hix hit hn hs hc
  all_goals have kd := kind x.Dst
  all_goals have ks := kind x.Src
  all_goals clear kind
  all_goals clear hsl
  all_goals simp_all [fieldO_eq, instrB, loadsB, storesB, borderB, plainB, goesB, itemsB, siteB, sameB, isB_btw, isB_not, List.length_pos_iff, gD_some, getI_no, site_iff]
  all_goals try omega
  all_goals try (rw [Bool.eq_iff_iff]; simp_all [beqI]; try omega)
  all_goals try (split <;> simp_all)
  all_goals try omega
theorem ri_14 (c : Cd) (hc : c.ok) (hs : (slL c.Sections).length ≤ 1000000) (t a : Int) (b : Bd) (x : In) (hb : getI (slL c.Threads) t = some b) (hx : getI (slL b.Code) a = some x) (hsl : ∀ l ∈ slL b.Slots, localB c l = true)
    (hn : okI (slL b.Slots).length) (hit : okSl Api_Item.ok x.Items) (hix : okSl Api_Item.ok x.Index) (hitl : (slL x.Items).length ≤ 1000000) (hixl : (slL x.Index).length ≤ 1000000) (hcl : (slL b.Code).length ≤ 1000000) (hop : x.Op = 14) (h : AHeap) :
    CallsA Tryd.prog 39 [.agg c.cells, .int .i64 t, .int .i64 a] h (fun v h2 => v = .bool (instrB c t b x a && (decide (x.Op = 17) == decide (a = (slL b.Code).length - 1))) ∧ Keeps h h2 (fun _ => False)) := by
  have kind : ∀ n : Int, btw n (slL b.Slots).length = true → ((gD b.Slots n).Kind = 1 ∨ (gD b.Slots n).Kind = 3) → (gD b.Slots n).Rec = 0 := fun n hq hk => by
    have := hsl _ (getI_mem (gD_some hq))
    unfold localB at this
    rw [if_neg (by omega)] at this
    simp only [Bool.and_eq_true, decide_eq_true_eq] at this
    exact this.2
  have hl := hasS_len 14
  have nq : (hasS 14 == [63]) = false := rfl
  have f100 : (hasS 14).contains 100 = false := rfl
  have f115 : (hasS 14).contains 115 = false := rfl
  have f114 : (hasS 14).contains 114 = false := rfl
  have f110 : (hasS 14).contains 110 = false := rfl
  have f116 : (hasS 14).contains 116 = true := rfl
  have f105 : (hasS 14).contains 105 = true := rfl
  have f120 : (hasS 14).contains 120 = false := rfl
  have wl : IntKind.i64.wrap (((slL b.Code).length : Int) - 1) = ((slL b.Code).length : Int) - 1 := wrapI (by omega) (by omega)
  apply padlockref09_instr_wp
  (repeat (first | simp -dsimp -implicitDefEqProofs (disch := omega) only [↓rP, rQ, rO, rL, ↓reduceIte, Nat.reduceEqDiff, Nat.reduceAdd, Nat.reduceLeDiff, pBuild, fillA, ↓tyr, ixI hb, ixI hx] | refine Cut.go ?_))
  have e2 : (h.push (.row 51 b.cells)).next = h.next + 1 := rfl
  have o1 : ((h.push (.row 51 b.cells)).push (.row 58 x.cells)).objs h.next = some (.row 51 b.cells) := by simp
  have o2 : ((h.push (.row 51 b.cells)).push (.row 58 x.cells)).objs (h.next + 1) = some (.row 58 x.cells) := by simp
  have nx : ((h.push (.row 51 b.cells)).push (.row 58 x.cells)).next = h.next + 2 := rfl
  have kH : Keeps h ((h.push (.row 51 b.cells)).push (.row 58 x.cells)) (fun _ => False) := (Keeps.one _ _).go (Keeps.one _ _)
  rw [e2]
  generalize ((h.push (.row 51 b.cells)).push (.row 58 x.cells)) = H at *
  simp only [hop]
  obtain ⟨l1, l2, g0, g1, std, dd0, dd1, dd3, sts, ss0, ss1, ss4, stds, ds0, ds1, ds3, ds4, px, pd, qx, kDSp, kSp, kG, kD, kS, kDS⟩ := ri_facts o1 o2 nx kH
  refine CallsA.go (ref_Has_does 14 _) ?_
  repeat' (first | (simp -dsimp -implicitDefEqProofs only [↓rP, rQ, rL, ↓reduceIte, Nat.reduceEqDiff, Nat.reduceAdd, Nat.reduceLeDiff, pBuild, fillA, ↓tyr, Int.reduceBEq, Int.reduceBNe, Int.reduceLT, Int.reduceLE, decide_true, decide_false, f100, f115, f114, f110, f116, f105, f120, nq, hop, ↓l1, ↓l2, wl, ixI hb, ixI hx, ↓g0, ↓g1, ↓std, ↓dd0, ↓dd1, ↓dd3, ↓sts, ↓ss0, ↓ss1, ↓ss4, ↓stds, ↓ds0, ↓ds1, ↓ds3, ↓ds4, ↓px, ↓pd, ↓qx]) | with_reducible refine Cut.go ?_ | with_reducible refine CallsA.go (has_100 _ hl _) ?_ | with_reducible refine CallsA.go (has_115 _ hl _) ?_ | with_reducible refine CallsA.go (has_114 _ hl _) ?_ | with_reducible refine CallsA.go (has_110 _ hl _) ?_ | with_reducible refine CallsA.go (has_116 _ hl _) ?_ | with_reducible refine CallsA.go (has_105 _ hl _) ?_ | with_reducible refine CallsA.go (has_120 _ hl _) ?_ | with_reducible refine CallsA.go (ref_in_does _ _ _) ?_ | with_reducible refine CallsA.go (ref_Inside_p c hs _ _ _) ?_ | with_reducible refine CallsA.go (ref_Good_does _ hn _ hit hitl _) ?_ | with_reducible refine CallsA.go (ref_Good_does _ hn _ hix hixl _) ?_ | with_reducible refine ixB_go (by assumption) ?_ | unfold padlockref09_instr_wp_p1 | unfold padlockref09_instr_wp_p2 | unfold padlockref09_instr_wp_p3 | unfold padlockref09_instr_wp_p4 | unfold padlockref09_instr_wp_p5 | (with_reducible refine Split.intro (fun hq => ?_) (fun hq => ?_) <;> (try simp only [Bool.not_eq_true', Bool.not_eq_false'] at hq) <;> (try rw [hq])))
  all_goals clear l1 l2 g0 g1 std dd0 dd1 dd3 sts ss0 ss1 ss4 stds ds0 ds1 ds3 ds4 px pd qx o1 o2
  all_goals refine And.intro (congrArg AV.bool ?_) (by first | exact kH | exact kG | exact kD _ | exact kS _ | exact kDS _ _ | exact kDSp _ _ _ | exact kSp _ _)
  all_goals clear kH kG kD kS kDS kDSp kSp nx wl nq hl f100 f115 f114 f110 f116 f105 f120 e2 hb hx hcl hixl hitl hix hit hn hs hc
  all_goals have kd := kind x.Dst
  all_goals have ks := kind x.Src
  all_goals clear kind
  all_goals clear hsl
  all_goals simp_all [fieldO_eq, instrB, loadsB, storesB, borderB, plainB, goesB, itemsB, siteB, sameB, isB_btw, isB_not, List.length_pos_iff, gD_some, getI_no, site_iff]
  all_goals try omega
  all_goals try (rw [Bool.eq_iff_iff]; simp_all [beqI]; try omega)
  all_goals try (split <;> simp_all)
  all_goals try omega
theorem ri_17 (c : Cd) (hc : c.ok) (hs : (slL c.Sections).length ≤ 1000000) (t a : Int) (b : Bd) (x : In) (hb : getI (slL c.Threads) t = some b) (hx : getI (slL b.Code) a = some x) (hsl : ∀ l ∈ slL b.Slots, localB c l = true)
    (hn : okI (slL b.Slots).length) (hit : okSl Api_Item.ok x.Items) (hix : okSl Api_Item.ok x.Index) (hitl : (slL x.Items).length ≤ 1000000) (hixl : (slL x.Index).length ≤ 1000000) (hcl : (slL b.Code).length ≤ 1000000) (hop : x.Op = 17) (h : AHeap) :
    CallsA Tryd.prog 39 [.agg c.cells, .int .i64 t, .int .i64 a] h (fun v h2 => v = .bool (instrB c t b x a && (decide (x.Op = 17) == decide (a = (slL b.Code).length - 1))) ∧ Keeps h h2 (fun _ => False)) := by
  have kind : ∀ n : Int, btw n (slL b.Slots).length = true → ((gD b.Slots n).Kind = 1 ∨ (gD b.Slots n).Kind = 3) → (gD b.Slots n).Rec = 0 := fun n hq hk => by
    have := hsl _ (getI_mem (gD_some hq))
    unfold localB at this
    rw [if_neg (by omega)] at this
    simp only [Bool.and_eq_true, decide_eq_true_eq] at this
    exact this.2
  have hl := hasS_len 17
  have nq : (hasS 17 == [63]) = false := rfl
  have f100 : (hasS 17).contains 100 = false := rfl
  have f115 : (hasS 17).contains 115 = false := rfl
  have f114 : (hasS 17).contains 114 = false := rfl
  have f110 : (hasS 17).contains 110 = false := rfl
  have f116 : (hasS 17).contains 116 = false := rfl
  have f105 : (hasS 17).contains 105 = false := rfl
  have f120 : (hasS 17).contains 120 = false := rfl
  have wl : IntKind.i64.wrap (((slL b.Code).length : Int) - 1) = ((slL b.Code).length : Int) - 1 := wrapI (by omega) (by omega)
  apply padlockref09_instr_wp
  (repeat (first | simp -dsimp -implicitDefEqProofs (disch := omega) only [↓rP, rQ, rO, rL, ↓reduceIte, Nat.reduceEqDiff, Nat.reduceAdd, Nat.reduceLeDiff, pBuild, fillA, ↓tyr, ixI hb, ixI hx] | refine Cut.go ?_))
  have e2 : (h.push (.row 51 b.cells)).next = h.next + 1 := rfl
  have o1 : ((h.push (.row 51 b.cells)).push (.row 58 x.cells)).objs h.next = some (.row 51 b.cells) := by simp
  have o2 : ((h.push (.row 51 b.cells)).push (.row 58 x.cells)).objs (h.next + 1) = some (.row 58 x.cells) := by simp
  have nx : ((h.push (.row 51 b.cells)).push (.row 58 x.cells)).next = h.next + 2 := rfl
  have kH : Keeps h ((h.push (.row 51 b.cells)).push (.row 58 x.cells)) (fun _ => False) := (Keeps.one _ _).go (Keeps.one _ _)
  rw [e2]
  generalize ((h.push (.row 51 b.cells)).push (.row 58 x.cells)) = H at *
  simp only [hop]
  obtain ⟨l1, l2, g0, g1, std, dd0, dd1, dd3, sts, ss0, ss1, ss4, stds, ds0, ds1, ds3, ds4, px, pd, qx, kDSp, kSp, kG, kD, kS, kDS⟩ := ri_facts o1 o2 nx kH
  refine CallsA.go (ref_Has_does 17 _) ?_
  repeat' (first | (simp -dsimp -implicitDefEqProofs only [↓rP, rQ, rL, ↓reduceIte, Nat.reduceEqDiff, Nat.reduceAdd, Nat.reduceLeDiff, pBuild, fillA, ↓tyr, Int.reduceBEq, Int.reduceBNe, Int.reduceLT, Int.reduceLE, decide_true, decide_false, f100, f115, f114, f110, f116, f105, f120, nq, hop, ↓l1, ↓l2, wl, ixI hb, ixI hx, ↓g0, ↓g1, ↓std, ↓dd0, ↓dd1, ↓dd3, ↓sts, ↓ss0, ↓ss1, ↓ss4, ↓stds, ↓ds0, ↓ds1, ↓ds3, ↓ds4, ↓px, ↓pd, ↓qx]) | with_reducible refine Cut.go ?_ | with_reducible refine CallsA.go (has_100 _ hl _) ?_ | with_reducible refine CallsA.go (has_115 _ hl _) ?_ | with_reducible refine CallsA.go (has_114 _ hl _) ?_ | with_reducible refine CallsA.go (has_110 _ hl _) ?_ | with_reducible refine CallsA.go (has_116 _ hl _) ?_ | with_reducible refine CallsA.go (has_105 _ hl _) ?_ | with_reducible refine CallsA.go (has_120 _ hl _) ?_ | with_reducible refine CallsA.go (ref_in_does _ _ _) ?_ | with_reducible refine CallsA.go (ref_Inside_p c hs _ _ _) ?_ | with_reducible refine CallsA.go (ref_Good_does _ hn _ hit hitl _) ?_ | with_reducible refine CallsA.go (ref_Good_does _ hn _ hix hixl _) ?_ | with_reducible refine ixB_go (by assumption) ?_ | unfold padlockref09_instr_wp_p1 | unfold padlockref09_instr_wp_p2 | unfold padlockref09_instr_wp_p3 | unfold padlockref09_instr_wp_p4 | unfold padlockref09_instr_wp_p5 | (with_reducible refine Split.intro (fun hq => ?_) (fun hq => ?_) <;> (try simp only [Bool.not_eq_true', Bool.not_eq_false'] at hq) <;> (try rw [hq])))
  all_goals clear l1 l2 g0 g1 std dd0 dd1 dd3 sts ss0 ss1 ss4 stds ds0 ds1 ds3 ds4 px pd qx o1 o2
  all_goals refine And.intro (congrArg AV.bool ?_) (by first | exact kH | exact kG | exact kD _ | exact kS _ | exact kDS _ _ | exact kDSp _ _ _ | exact kSp _ _)
  all_goals clear kH kG kD kS kDS kDSp kSp nx wl nq hl f100 f115 f114 f110 f116 f105 f120 e2 hb hx hcl hixl hitl hix hit hn hs hc
  all_goals have kd := kind x.Dst
  all_goals have ks := kind x.Src
  all_goals clear kind
  all_goals clear hsl
  all_goals simp_all [fieldO_eq, instrB, loadsB, storesB, borderB, plainB, goesB, itemsB, siteB, sameB, isB_btw, isB_not, List.length_pos_iff, gD_some, getI_no, site_iff]
  all_goals try omega
  all_goals try (rw [Bool.eq_iff_iff]; simp_all [beqI]; try omega)
  all_goals try (split <;> simp_all)
  all_goals try omega
end Go.Proofs.YtopfjochppdnfaaDoor
end

section
/- What the document's instr computes, kind by kind. -/
set_option maxRecDepth 100000
set_option maxHeartbeats 4000000
namespace Go.Proofs.YtopfjochppdnfaaDoor
open Go.Abs
theorem ri_2 (c : Cd) (hc : c.ok) (hs : (slL c.Sections).length ≤ 1000000) (t a : Int) (b : Bd) (x : In) (hb : getI (slL c.Threads) t = some b) (hx : getI (slL b.Code) a = some x) (hsl : ∀ l ∈ slL b.Slots, localB c l = true)
    (hn : okI (slL b.Slots).length) (hit : okSl Api_Item.ok x.Items) (hix : okSl Api_Item.ok x.Index) (hitl : (slL x.Items).length ≤ 1000000) (hixl : (slL x.Index).length ≤ 1000000) (hcl : (slL b.Code).length ≤ 1000000) (hop : x.Op = 2) (h : AHeap) :
    CallsA Tryd.prog 39 [.agg c.cells, .int .i64 t, .int .i64 a] h (fun v h2 => v = .bool (instrB c t b x a && (decide (x.Op = 17) == decide (a = (slL b.Code).length - 1))) ∧ Keeps h h2 (fun _ => False)) := by
  have kind : ∀ n : Int, btw n (slL b.Slots).length = true → ((gD b.Slots n).Kind = 1 ∨ (gD b.Slots n).Kind = 3) → (gD b.Slots n).Rec = 0 := fun n hq hk => by
    have := hsl _ (getI_mem (gD_some hq))
    unfold localB at this
    rw [if_neg (by omega)] at this
    simp only [Bool.and_eq_true, decide_eq_true_eq] at this
    exact this.2
  have hl := hasS_len 2
  have nq : (hasS 2 == [63]) = false := rfl
  have f100 : (hasS 2).contains 100 = true := rfl
  have f115 : (hasS 2).contains 115 = false := rfl
  have f114 : (hasS 2).contains 114 = false := rfl
  have f110 : (hasS 2).contains 110 = true := rfl
  have f116 : (hasS 2).contains 116 = false := rfl
  have f105 : (hasS 2).contains 105 = false := rfl
  have f120 : (hasS 2).contains 120 = false := rfl
  have wl : IntKind.i64.wrap (((slL b.Code).length : Int) - 1) = ((slL b.Code).length : Int) - 1 := wrapI (by omega) (by omega)
  apply padlockref09_instr_wp
  (repeat (first | simp -dsimp -implicitDefEqProofs (disch := omega) only [↓rP, rQ, rO, rL, ↓reduceIte, Nat.reduceEqDiff, Nat.reduceAdd, Nat.reduceLeDiff, pBuild, fillA, ↓tyr, ixI hb, ixI hx] | refine Cut.go ?_))
  have e2 : (h.push (.row 51 b.cells)).next = h.next + 1 := rfl
  have o1 : ((h.push (.row 51 b.cells)).push (.row 58 x.cells)).objs h.next = some (.row 51 b.cells) := by simp
  have o2 : ((h.push (.row 51 b.cells)).push (.row 58 x.cells)).objs (h.next + 1) = some (.row 58 x.cells) := by simp
  have nx : ((h.push (.row 51 b.cells)).push (.row 58 x.cells)).next = h.next + 2 := rfl
  have kH : Keeps h ((h.push (.row 51 b.cells)).push (.row 58 x.cells)) (fun _ => False) := (Keeps.one _ _).go (Keeps.one _ _)
  rw [e2]
  generalize ((h.push (.row 51 b.cells)).push (.row 58 x.cells)) = H at *
  simp only [hop]
  obtain ⟨l1, l2, g0, g1, std, dd0, dd1, dd3, sts, ss0, ss1, ss4, stds, ds0, ds1, ds3, ds4, px, pd, qx, kDSp, kSp, kG, kD, kS, kDS⟩ := ri_facts o1 o2 nx kH
  refine CallsA.go (ref_Has_does 2 _) ?_
  repeat' (first | (simp -dsimp -implicitDefEqProofs only [↓rP, rQ, rL, ↓reduceIte, Nat.reduceEqDiff, Nat.reduceAdd, Nat.reduceLeDiff, pBuild, fillA, ↓tyr, Int.reduceBEq, Int.reduceBNe, Int.reduceLT, Int.reduceLE, decide_true, decide_false, f100, f115, f114, f110, f116, f105, f120, nq, hop, ↓l1, ↓l2, wl, ixI hb, ixI hx, ↓g0, ↓g1, ↓std, ↓dd0, ↓dd1, ↓dd3, ↓sts, ↓ss0, ↓ss1, ↓ss4, ↓stds, ↓ds0, ↓ds1, ↓ds3, ↓ds4, ↓px, ↓pd, ↓qx]) | with_reducible refine Cut.go ?_ | with_reducible refine CallsA.go (has_100 _ hl _) ?_ | with_reducible refine CallsA.go (has_115 _ hl _) ?_ | with_reducible refine CallsA.go (has_114 _ hl _) ?_ | with_reducible refine CallsA.go (has_110 _ hl _) ?_ | with_reducible refine CallsA.go (has_116 _ hl _) ?_ | with_reducible refine CallsA.go (has_105 _ hl _) ?_ | with_reducible refine CallsA.go (has_120 _ hl _) ?_ | with_reducible refine CallsA.go (ref_in_does _ _ _) ?_ | with_reducible refine CallsA.go (ref_Inside_p c hs _ _ _) ?_ | with_reducible refine CallsA.go (ref_Good_does _ hn _ hit hitl _) ?_ | with_reducible refine CallsA.go (ref_Good_does _ hn _ hix hixl _) ?_ | with_reducible refine ixB_go (by assumption) ?_ | unfold padlockref09_instr_wp_p1 | unfold padlockref09_instr_wp_p2 | unfold padlockref09_instr_wp_p3 | unfold padlockref09_instr_wp_p4 | unfold padlockref09_instr_wp_p5 | (with_reducible refine Split.intro (fun hq => ?_) (fun hq => ?_) <;> (try simp only [Bool.not_eq_true', Bool.not_eq_false'] at hq) <;> (try rw [hq])))
  all_goals clear l1 l2 g0 g1 std dd0 dd1 dd3 sts ss0 ss1 ss4 stds ds0 ds1 ds3 ds4 px pd qx o1 o2
  all_goals refine And.intro (congrArg AV.bool ?_) (by first | exact kH | exact kG | exact kD _ | exact kS _ | exact kDS _ _ | exact kDSp _ _ _ | exact kSp _ _)
  all_goals clear kH kG kD kS kDS kDSp kSp nx wl nq hl f100 f115 f114 f110 f116 f105 f120 e2 hb hx hcl hixl hitl hix hit hn hs hc
  all_goals have kd := kind x.Dst
  all_goals have ks := kind x.Src
  all_goals clear kind
  all_goals clear hsl
  all_goals simp_all [fieldO_eq, instrB, loadsB, storesB, borderB, plainB, goesB, itemsB, siteB, sameB, isB_btw, isB_not, List.length_pos_iff, gD_some, getI_no, site_iff]
  all_goals try omega
  all_goals try (rw [Bool.eq_iff_iff]; simp_all [beqI]; try omega)
  all_goals try (split <;> simp_all)
  all_goals try omega
theorem ri_4 (c : Cd) (hc : c.ok) (hs : (slL c.Sections).length ≤ 1000000) (t a : Int) (b : Bd) (x : In) (hb : getI (slL c.Threads) t = some b) (hx : getI (slL b.Code) a = some x) (hsl : ∀ l ∈ slL b.Slots, localB c l = true)
    (hn : okI (slL b.Slots).length) (hit : okSl Api_Item.ok x.Items) (hix : okSl Api_Item.ok x.Index) (hitl : (slL x.Items).length ≤ 1000000) (hixl : (slL x.Index).length ≤ 1000000) (hcl : (slL b.Code).length ≤ 1000000) (hop : x.Op = 4) (h : AHeap) :
    CallsA Tryd.prog 39 [.agg c.cells, .int .i64 t, .int .i64 a] h (fun v h2 => v = .bool (instrB c t b x a && (decide (x.Op = 17) == decide (a = (slL b.Code).length - 1))) ∧ Keeps h h2 (fun _ => False)) := by
  have kind : ∀ n : Int, btw n (slL b.Slots).length = true → ((gD b.Slots n).Kind = 1 ∨ (gD b.Slots n).Kind = 3) → (gD b.Slots n).Rec = 0 := fun n hq hk => by
    have := hsl _ (getI_mem (gD_some hq))
    unfold localB at this
    rw [if_neg (by omega)] at this
    simp only [Bool.and_eq_true, decide_eq_true_eq] at this
    exact this.2
  have hl := hasS_len 4
  have nq : (hasS 4 == [63]) = false := rfl
  have f100 : (hasS 4).contains 100 = true := rfl
  have f115 : (hasS 4).contains 115 = true := rfl
  have f114 : (hasS 4).contains 114 = false := rfl
  have f110 : (hasS 4).contains 110 = false := rfl
  have f116 : (hasS 4).contains 116 = false := rfl
  have f105 : (hasS 4).contains 105 = false := rfl
  have f120 : (hasS 4).contains 120 = true := rfl
  have wl : IntKind.i64.wrap (((slL b.Code).length : Int) - 1) = ((slL b.Code).length : Int) - 1 := wrapI (by omega) (by omega)
  apply padlockref09_instr_wp
  (repeat (first | simp -dsimp -implicitDefEqProofs (disch := omega) only [↓rP, rQ, rO, rL, ↓reduceIte, Nat.reduceEqDiff, Nat.reduceAdd, Nat.reduceLeDiff, pBuild, fillA, ↓tyr, ixI hb, ixI hx] | refine Cut.go ?_))
  have e2 : (h.push (.row 51 b.cells)).next = h.next + 1 := rfl
  have o1 : ((h.push (.row 51 b.cells)).push (.row 58 x.cells)).objs h.next = some (.row 51 b.cells) := by simp
  have o2 : ((h.push (.row 51 b.cells)).push (.row 58 x.cells)).objs (h.next + 1) = some (.row 58 x.cells) := by simp
  have nx : ((h.push (.row 51 b.cells)).push (.row 58 x.cells)).next = h.next + 2 := rfl
  have kH : Keeps h ((h.push (.row 51 b.cells)).push (.row 58 x.cells)) (fun _ => False) := (Keeps.one _ _).go (Keeps.one _ _)
  rw [e2]
  generalize ((h.push (.row 51 b.cells)).push (.row 58 x.cells)) = H at *
  simp only [hop]
  obtain ⟨l1, l2, g0, g1, std, dd0, dd1, dd3, sts, ss0, ss1, ss4, stds, ds0, ds1, ds3, ds4, px, pd, qx, kDSp, kSp, kG, kD, kS, kDS⟩ := ri_facts o1 o2 nx kH
  refine CallsA.go (ref_Has_does 4 _) ?_
  repeat' (first | (simp -dsimp -implicitDefEqProofs only [↓rP, rQ, rL, ↓reduceIte, Nat.reduceEqDiff, Nat.reduceAdd, Nat.reduceLeDiff, pBuild, fillA, ↓tyr, Int.reduceBEq, Int.reduceBNe, Int.reduceLT, Int.reduceLE, decide_true, decide_false, f100, f115, f114, f110, f116, f105, f120, nq, hop, ↓l1, ↓l2, wl, ixI hb, ixI hx, ↓g0, ↓g1, ↓std, ↓dd0, ↓dd1, ↓dd3, ↓sts, ↓ss0, ↓ss1, ↓ss4, ↓stds, ↓ds0, ↓ds1, ↓ds3, ↓ds4, ↓px, ↓pd, ↓qx]) | with_reducible refine Cut.go ?_ | with_reducible refine CallsA.go (has_100 _ hl _) ?_ | with_reducible refine CallsA.go (has_115 _ hl _) ?_ | with_reducible refine CallsA.go (has_114 _ hl _) ?_ | with_reducible refine CallsA.go (has_110 _ hl _) ?_ | with_reducible refine CallsA.go (has_116 _ hl _) ?_ | with_reducible refine CallsA.go (has_105 _ hl _) ?_ | with_reducible refine CallsA.go (has_120 _ hl _) ?_ | with_reducible refine CallsA.go (ref_in_does _ _ _) ?_ | with_reducible refine CallsA.go (ref_Inside_p c hs _ _ _) ?_ | with_reducible refine CallsA.go (ref_Good_does _ hn _ hit hitl _) ?_ | with_reducible refine CallsA.go (ref_Good_does _ hn _ hix hixl _) ?_ | with_reducible refine ixB_go (by assumption) ?_ | unfold padlockref09_instr_wp_p1 | unfold padlockref09_instr_wp_p2 | unfold padlockref09_instr_wp_p3 | unfold padlockref09_instr_wp_p4 | unfold padlockref09_instr_wp_p5 | (with_reducible refine Split.intro (fun hq => ?_) (fun hq => ?_) <;> (try simp only [Bool.not_eq_true', Bool.not_eq_false'] at hq) <;> (try rw [hq])))
  all_goals clear l1 l2 g0 g1 std dd0 dd1 dd3 sts ss0 ss1 ss4 stds ds0 ds1 ds3 ds4 px pd qx o1 o2
  all_goals refine And.intro (congrArg AV.bool ?_) (by first | exact kH | exact kG | exact kD _ | exact kS _ | exact kDS _ _ | exact kDSp _ _ _ | exact kSp _ _)
  all_goals clear kH kG kD kS kDS kDSp kSp nx wl nq hl f100 f115 f114 f110 f116 f105 f120 e2 hb hx hcl hixl hitl hix hit hn hs hc
  all_goals have kd := kind x.Dst
  all_goals have ks := kind x.Src
  all_goals clear kind
  all_goals clear hsl
  all_goals simp_all [fieldO_eq, instrB, loadsB, storesB, borderB, plainB, goesB, itemsB, siteB, sameB, isB_btw, isB_not, List.length_pos_iff, gD_some, getI_no, site_iff]
  all_goals try omega
  all_goals try (rw [Bool.eq_iff_iff]; simp_all [beqI]; try omega)
  all_goals try (split <;> simp_all)
  all_goals try omega
theorem ri_5 (c : Cd) (hc : c.ok) (hs : (slL c.Sections).length ≤ 1000000) (t a : Int) (b : Bd) (x : In) (hb : getI (slL c.Threads) t = some b) (hx : getI (slL b.Code) a = some x) (hsl : ∀ l ∈ slL b.Slots, localB c l = true)
    (hn : okI (slL b.Slots).length) (hit : okSl Api_Item.ok x.Items) (hix : okSl Api_Item.ok x.Index) (hitl : (slL x.Items).length ≤ 1000000) (hixl : (slL x.Index).length ≤ 1000000) (hcl : (slL b.Code).length ≤ 1000000) (hop : x.Op = 5) (h : AHeap) :
    CallsA Tryd.prog 39 [.agg c.cells, .int .i64 t, .int .i64 a] h (fun v h2 => v = .bool (instrB c t b x a && (decide (x.Op = 17) == decide (a = (slL b.Code).length - 1))) ∧ Keeps h h2 (fun _ => False)) := by
  have kind : ∀ n : Int, btw n (slL b.Slots).length = true → ((gD b.Slots n).Kind = 1 ∨ (gD b.Slots n).Kind = 3) → (gD b.Slots n).Rec = 0 := fun n hq hk => by
    have := hsl _ (getI_mem (gD_some hq))
    unfold localB at this
    rw [if_neg (by omega)] at this
    simp only [Bool.and_eq_true, decide_eq_true_eq] at this
    exact this.2
  have hl := hasS_len 5
  have nq : (hasS 5 == [63]) = false := rfl
  have f100 : (hasS 5).contains 100 = false := rfl
  have f115 : (hasS 5).contains 115 = false := rfl
  have f114 : (hasS 5).contains 114 = false := rfl
  have f110 : (hasS 5).contains 110 = true := rfl
  have f116 : (hasS 5).contains 116 = false := rfl
  have f105 : (hasS 5).contains 105 = true := rfl
  have f120 : (hasS 5).contains 120 = false := rfl
  have wl : IntKind.i64.wrap (((slL b.Code).length : Int) - 1) = ((slL b.Code).length : Int) - 1 := wrapI (by omega) (by omega)
  apply padlockref09_instr_wp
  (repeat (first | simp -dsimp -implicitDefEqProofs (disch := omega) only [↓rP, rQ, rO, rL, ↓reduceIte, Nat.reduceEqDiff, Nat.reduceAdd, Nat.reduceLeDiff, pBuild, fillA, ↓tyr, ixI hb, ixI hx] | refine Cut.go ?_))
  have e2 : (h.push (.row 51 b.cells)).next = h.next + 1 := rfl
  have o1 : ((h.push (.row 51 b.cells)).push (.row 58 x.cells)).objs h.next = some (.row 51 b.cells) := by simp
  have o2 : ((h.push (.row 51 b.cells)).push (.row 58 x.cells)).objs (h.next + 1) = some (.row 58 x.cells) := by simp
  have nx : ((h.push (.row 51 b.cells)).push (.row 58 x.cells)).next = h.next + 2 := rfl
  have kH : Keeps h ((h.push (.row 51 b.cells)).push (.row 58 x.cells)) (fun _ => False) := (Keeps.one _ _).go (Keeps.one _ _)
  rw [e2]
  generalize ((h.push (.row 51 b.cells)).push (.row 58 x.cells)) = H at *
  simp only [hop]
  obtain ⟨l1, l2, g0, g1, std, dd0, dd1, dd3, sts, ss0, ss1, ss4, stds, ds0, ds1, ds3, ds4, px, pd, qx, kDSp, kSp, kG, kD, kS, kDS⟩ := ri_facts o1 o2 nx kH
  refine CallsA.go (ref_Has_does 5 _) ?_
  repeat' (first | (simp -dsimp -implicitDefEqProofs only [↓rP, rQ, rL, ↓reduceIte, Nat.reduceEqDiff, Nat.reduceAdd, Nat.reduceLeDiff, pBuild, fillA, ↓tyr, Int.reduceBEq, Int.reduceBNe, Int.reduceLT, Int.reduceLE, decide_true, decide_false, f100, f115, f114, f110, f116, f105, f120, nq, hop, ↓l1, ↓l2, wl, ixI hb, ixI hx, ↓g0, ↓g1, ↓std, ↓dd0, ↓dd1, ↓dd3, ↓sts, ↓ss0, ↓ss1, ↓ss4, ↓stds, ↓ds0, ↓ds1, ↓ds3, ↓ds4, ↓px, ↓pd, ↓qx]) | with_reducible refine Cut.go ?_ | with_reducible refine CallsA.go (has_100 _ hl _) ?_ | with_reducible refine CallsA.go (has_115 _ hl _) ?_ | with_reducible refine CallsA.go (has_114 _ hl _) ?_ | with_reducible refine CallsA.go (has_110 _ hl _) ?_ | with_reducible refine CallsA.go (has_116 _ hl _) ?_ | with_reducible refine CallsA.go (has_105 _ hl _) ?_ | with_reducible refine CallsA.go (has_120 _ hl _) ?_ | with_reducible refine CallsA.go (ref_in_does _ _ _) ?_ | with_reducible refine CallsA.go (ref_Inside_p c hs _ _ _) ?_ | with_reducible refine CallsA.go (ref_Good_does _ hn _ hit hitl _) ?_ | with_reducible refine CallsA.go (ref_Good_does _ hn _ hix hixl _) ?_ | with_reducible refine ixB_go (by assumption) ?_ | unfold padlockref09_instr_wp_p1 | unfold padlockref09_instr_wp_p2 | unfold padlockref09_instr_wp_p3 | unfold padlockref09_instr_wp_p4 | unfold padlockref09_instr_wp_p5 | (with_reducible refine Split.intro (fun hq => ?_) (fun hq => ?_) <;> (try simp only [Bool.not_eq_true', Bool.not_eq_false'] at hq) <;> (try rw [hq])))
  all_goals clear l1 l2 g0 g1 std dd0 dd1 dd3 sts ss0 ss1 ss4 stds ds0 ds1 ds3 ds4 px pd qx o1 o2
  all_goals refine And.intro (congrArg AV.bool ?_) (by first | exact kH | exact kG | exact kD _ | exact kS _ | exact kDS _ _ | exact kDSp _ _ _ | exact kSp _ _)
  all_goals clear kH kG kD kS kDS kDSp kSp nx wl nq hl f100 f115 f114 f110 f116 f105 f120 e2 hb hx hcl hixl hitl hix hit hn hs hc
  all_goals have kd := kind x.Dst
  all_goals have ks := kind x.Src
  all_goals clear kind
  all_goals clear hsl
  all_goals simp_all [fieldO_eq, instrB, loadsB, storesB, borderB, plainB, goesB, itemsB, siteB, sameB, isB_btw, isB_not, List.length_pos_iff, gD_some, getI_no, site_iff]
  all_goals try omega
  all_goals try (rw [Bool.eq_iff_iff]; simp_all [beqI]; try omega)
  all_goals try (split <;> simp_all)
  all_goals try omega
theorem ri_7 (c : Cd) (hc : c.ok) (hs : (slL c.Sections).length ≤ 1000000) (t a : Int) (b : Bd) (x : In) (hb : getI (slL c.Threads) t = some b) (hx : getI (slL b.Code) a = some x) (hsl : ∀ l ∈ slL b.Slots, localB c l = true)
    (hn : okI (slL b.Slots).length) (hit : okSl Api_Item.ok x.Items) (hix : okSl Api_Item.ok x.Index) (hitl : (slL x.Items).length ≤ 1000000) (hixl : (slL x.Index).length ≤ 1000000) (hcl : (slL b.Code).length ≤ 1000000) (hop : x.Op = 7) (h : AHeap) :
    CallsA Tryd.prog 39 [.agg c.cells, .int .i64 t, .int .i64 a] h (fun v h2 => v = .bool (instrB c t b x a && (decide (x.Op = 17) == decide (a = (slL b.Code).length - 1))) ∧ Keeps h h2 (fun _ => False)) := by
  have kind : ∀ n : Int, btw n (slL b.Slots).length = true → ((gD b.Slots n).Kind = 1 ∨ (gD b.Slots n).Kind = 3) → (gD b.Slots n).Rec = 0 := fun n hq hk => by
    have := hsl _ (getI_mem (gD_some hq))
    unfold localB at this
    rw [if_neg (by omega)] at this
    simp only [Bool.and_eq_true, decide_eq_true_eq] at this
    exact this.2
  have hl := hasS_len 7
  have nq : (hasS 7 == [63]) = false := rfl
  have f100 : (hasS 7).contains 100 = false := rfl
  have f115 : (hasS 7).contains 115 = true := rfl
  have f114 : (hasS 7).contains 114 = false := rfl
  have f110 : (hasS 7).contains 110 = false := rfl
  have f116 : (hasS 7).contains 116 = false := rfl
  have f105 : (hasS 7).contains 105 = true := rfl
  have f120 : (hasS 7).contains 120 = true := rfl
  have wl : IntKind.i64.wrap (((slL b.Code).length : Int) - 1) = ((slL b.Code).length : Int) - 1 := wrapI (by omega) (by omega)
  apply padlockref09_instr_wp
  (repeat (first | simp -dsimp -implicitDefEqProofs (disch := omega) only [↓rP, rQ, rO, rL, ↓reduceIte, Nat.reduceEqDiff, Nat.reduceAdd, Nat.reduceLeDiff, pBuild, fillA, ↓tyr, ixI hb, ixI hx] | refine Cut.go ?_))
  have e2 : (h.push (.row 51 b.cells)).next = h.next + 1 := rfl
  have o1 : ((h.push (.row 51 b.cells)).push (.row 58 x.cells)).objs h.next = some (.row 51 b.cells) := by simp
  have o2 : ((h.push (.row 51 b.cells)).push (.row 58 x.cells)).objs (h.next + 1) = some (.row 58 x.cells) := by simp
  have nx : ((h.push (.row 51 b.cells)).push (.row 58 x.cells)).next = h.next + 2 := rfl
  have kH : Keeps h ((h.push (.row 51 b.cells)).push (.row 58 x.cells)) (fun _ => False) := (Keeps.one _ _).go (Keeps.one _ _)
  rw [e2]
  generalize ((h.push (.row 51 b.cells)).push (.row 58 x.cells)) = H at *
  simp only [hop]
  obtain ⟨l1, l2, g0, g1, std, dd0, dd1, dd3, sts, ss0, ss1, ss4, stds, ds0, ds1, ds3, ds4, px, pd, qx, kDSp, kSp, kG, kD, kS, kDS⟩ := ri_facts o1 o2 nx kH
  refine CallsA.go (ref_Has_does 7 _) ?_
  repeat' (first | (simp -dsimp -implicitDefEqProofs only [↓rP, rQ, rL, ↓reduceIte, Nat.reduceEqDiff, Nat.reduceAdd, Nat.reduceLeDiff, pBuild, fillA, ↓tyr, Int.reduceBEq, Int.reduceBNe, Int.reduceLT, Int.reduceLE, decide_true, decide_false, f100, f115, f114, f110, f116, f105, f120, nq, hop, ↓l1, ↓l2, wl, ixI hb, ixI hx, ↓g0, ↓g1, ↓std, ↓dd0, ↓dd1, ↓dd3, ↓sts, ↓ss0, ↓ss1, ↓ss4, ↓stds, ↓ds0, ↓ds1, ↓ds3, ↓ds4, ↓px, ↓pd, ↓qx]) | with_reducible refine Cut.go ?_ | with_reducible refine CallsA.go (has_100 _ hl _) ?_ | with_reducible refine CallsA.go (has_115 _ hl _) ?_ | with_reducible refine CallsA.go (has_114 _ hl _) ?_ | with_reducible refine CallsA.go (has_110 _ hl _) ?_ | with_reducible refine CallsA.go (has_116 _ hl _) ?_ | with_reducible refine CallsA.go (has_105 _ hl _) ?_ | with_reducible refine CallsA.go (has_120 _ hl _) ?_ | with_reducible refine CallsA.go (ref_in_does _ _ _) ?_ | with_reducible refine CallsA.go (ref_Inside_p c hs _ _ _) ?_ | with_reducible refine CallsA.go (ref_Good_does _ hn _ hit hitl _) ?_ | with_reducible refine CallsA.go (ref_Good_does _ hn _ hix hixl _) ?_ | with_reducible refine ixB_go (by assumption) ?_ | unfold padlockref09_instr_wp_p1 | unfold padlockref09_instr_wp_p2 | unfold padlockref09_instr_wp_p3 | unfold padlockref09_instr_wp_p4 | unfold padlockref09_instr_wp_p5 | (with_reducible refine Split.intro (fun hq => ?_) (fun hq => ?_) <;> (try simp only [Bool.not_eq_true', Bool.not_eq_false'] at hq) <;> (try rw [hq])))
  all_goals clear l1 l2 g0 g1 std dd0 dd1 dd3 sts ss0 ss1 ss4 stds ds0 ds1 ds3 ds4 px pd qx o1 o2
  all_goals refine And.intro (congrArg AV.bool ?_) (by first | exact kH | exact kG | exact kD _ | exact kS _ | exact kDS _ _ | exact kDSp _ _ _ | exact kSp _ _)
  all_goals clear kH kG kD kS kDS kDSp kSp nx wl nq hl f100 f115 f114 f110 f116 f105 f120 e2 hb hx hcl hixl hitl hix hit hn hs hc
  all_goals have kd := kind x.Dst
  all_goals have ks := kind x.Src
  all_goals clear kind
  all_goals clear hsl
  all_goals simp_all [fieldO_eq, instrB, loadsB, storesB, borderB, plainB, goesB, itemsB, siteB, sameB, isB_btw, isB_not, List.length_pos_iff, gD_some, getI_no, site_iff]
  all_goals try omega
  all_goals try (rw [Bool.eq_iff_iff]; simp_all [beqI]; try omega)
  all_goals try (split <;> simp_all)
  all_goals try omega
theorem ri_10 (c : Cd) (hc : c.ok) (hs : (slL c.Sections).length ≤ 1000000) (t a : Int) (b : Bd) (x : In) (hb : getI (slL c.Threads) t = some b) (hx : getI (slL b.Code) a = some x) (hsl : ∀ l ∈ slL b.Slots, localB c l = true)
    (hn : okI (slL b.Slots).length) (hit : okSl Api_Item.ok x.Items) (hix : okSl Api_Item.ok x.Index) (hitl : (slL x.Items).length ≤ 1000000) (hixl : (slL x.Index).length ≤ 1000000) (hcl : (slL b.Code).length ≤ 1000000) (hop : x.Op = 10) (h : AHeap) :
    CallsA Tryd.prog 39 [.agg c.cells, .int .i64 t, .int .i64 a] h (fun v h2 => v = .bool (instrB c t b x a && (decide (x.Op = 17) == decide (a = (slL b.Code).length - 1))) ∧ Keeps h h2 (fun _ => False)) := by
  have kind : ∀ n : Int, btw n (slL b.Slots).length = true → ((gD b.Slots n).Kind = 1 ∨ (gD b.Slots n).Kind = 3) → (gD b.Slots n).Rec = 0 := fun n hq hk => by
    have := hsl _ (getI_mem (gD_some hq))
    unfold localB at this
    rw [if_neg (by omega)] at this
    simp only [Bool.and_eq_true, decide_eq_true_eq] at this
    exact this.2
  have hl := hasS_len 10
  have nq : (hasS 10 == [63]) = false := rfl
  have f100 : (hasS 10).contains 100 = true := rfl
  have f115 : (hasS 10).contains 115 = true := rfl
  have f114 : (hasS 10).contains 114 = false := rfl
  have f110 : (hasS 10).contains 110 = false := rfl
  have f116 : (hasS 10).contains 116 = false := rfl
  have f105 : (hasS 10).contains 105 = false := rfl
  have f120 : (hasS 10).contains 120 = false := rfl
  have wl : IntKind.i64.wrap (((slL b.Code).length : Int) - 1) = ((slL b.Code).length : Int) - 1 := wrapI (by omega) (by omega)
  apply padlockref09_instr_wp
  (repeat (first | simp -dsimp -implicitDefEqProofs (disch := omega) only [↓rP, rQ, rO, rL, ↓reduceIte, Nat.reduceEqDiff, Nat.reduceAdd, Nat.reduceLeDiff, pBuild, fillA, ↓tyr, ixI hb, ixI hx] | refine Cut.go ?_))
  have e2 : (h.push (.row 51 b.cells)).next = h.next + 1 := rfl
  have o1 : ((h.push (.row 51 b.cells)).push (.row 58 x.cells)).objs h.next = some (.row 51 b.cells) := by simp
  have o2 : ((h.push (.row 51 b.cells)).push (.row 58 x.cells)).objs (h.next + 1) = some (.row 58 x.cells) := by simp
  have nx : ((h.push (.row 51 b.cells)).push (.row 58 x.cells)).next = h.next + 2 := rfl
  have kH : Keeps h ((h.push (.row 51 b.cells)).push (.row 58 x.cells)) (fun _ => False) := (Keeps.one _ _).go (Keeps.one _ _)
  rw [e2]
  generalize ((h.push (.row 51 b.cells)).push (.row 58 x.cells)) = H at *
  simp only [hop]
  obtain ⟨l1, l2, g0, g1, std, dd0, dd1, dd3, sts, ss0, ss1, ss4, stds, ds0, ds1, ds3, ds4, px, pd, qx, kDSp, kSp, kG, kD, kS, kDS⟩ := ri_facts o1 o2 nx kH
  refine CallsA.go (ref_Has_does 10 _) ?_
  repeat' (first | (simp -dsimp -implicitDefEqProofs only [↓rP, rQ, rL, ↓reduceIte, Nat.reduceEqDiff, Nat.reduceAdd, Nat.reduceLeDiff, pBuild, fillA, ↓tyr, Int.reduceBEq, Int.reduceBNe, Int.reduceLT, Int.reduceLE, decide_true, decide_false, f100, f115, f114, f110, f116, f105, f120, nq, hop, ↓l1, ↓l2, wl, ixI hb, ixI hx, ↓g0, ↓g1, ↓std, ↓dd0, ↓dd1, ↓dd3, ↓sts, ↓ss0, ↓ss1, ↓ss4, ↓stds, ↓ds0, ↓ds1, ↓ds3, ↓ds4, ↓px, ↓pd, ↓qx]) | with_reducible refine Cut.go ?_ | with_reducible refine CallsA.go (has_100 _ hl _) ?_ | with_reducible refine CallsA.go (has_115 _ hl _) ?_ | with_reducible refine CallsA.go (has_114 _ hl _) ?_ | with_reducible refine CallsA.go (has_110 _ hl _) ?_ | with_reducible refine CallsA.go (has_116 _ hl _) ?_ | with_reducible refine CallsA.go (has_105 _ hl _) ?_ | with_reducible refine CallsA.go (has_120 _ hl _) ?_ | with_reducible refine CallsA.go (ref_in_does _ _ _) ?_ | with_reducible refine CallsA.go (ref_Inside_p c hs _ _ _) ?_ | with_reducible refine CallsA.go (ref_Good_does _ hn _ hit hitl _) ?_ | with_reducible refine CallsA.go (ref_Good_does _ hn _ hix hixl _) ?_ | with_reducible refine ixB_go (by assumption) ?_ | unfold padlockref09_instr_wp_p1 | unfold padlockref09_instr_wp_p2 | unfold padlockref09_instr_wp_p3 | unfold padlockref09_instr_wp_p4 | unfold padlockref09_instr_wp_p5 | (with_reducible refine Split.intro (fun hq => ?_) (fun hq => ?_) <;> (try simp only [Bool.not_eq_true', Bool.not_eq_false'] at hq) <;> (try rw [hq])))
  all_goals clear l1 l2 g0 g1 std dd0 dd1 dd3 sts ss0 ss1 ss4 stds ds0 ds1 ds3 ds4 px pd qx o1 o2
  all_goals refine And.intro (congrArg AV.bool ?_) (by first | exact kH | exact kG | exact kD _ | exact kS _ | exact kDS _ _ | exact kDSp _ _ _ | exact kSp _ _)
  all_goals clear kH kG kD kS kDS kDSp kSp nx wl nq hl f100 f115 f114 f110 f116 f105 f120 e2 hb hx hcl hixl hitl hix hit hn hs hc
  all_goals have kd := kind x.Dst
  all_goals have ks := kind x.Src
  all_goals clear kind
  all_goals clear hsl
  all_goals simp_all [fieldO_eq, instrB, loadsB, storesB, borderB, plainB, goesB, itemsB, siteB, sameB, isB_btw, isB_not, List.length_pos_iff, gD_some, getI_no, site_iff]
  all_goals try omega
  all_goals try (rw [Bool.eq_iff_iff]; simp_all [beqI]; try omega)
  all_goals try (split <;> simp_all)
  all_goals try omega
end Go.Proofs.YtopfjochppdnfaaDoor
end

section
/- What the document's instr computes, kind by kind. -/
set_option maxRecDepth 100000
set_option maxHeartbeats 4000000
namespace Go.Proofs.YtopfjochppdnfaaDoor
open Go.Abs
theorem ri_3 (c : Cd) (hc : c.ok) (hs : (slL c.Sections).length ≤ 1000000) (t a : Int) (b : Bd) (x : In) (hb : getI (slL c.Threads) t = some b) (hx : getI (slL b.Code) a = some x) (hsl : ∀ l ∈ slL b.Slots, localB c l = true)
    (hn : okI (slL b.Slots).length) (hit : okSl Api_Item.ok x.Items) (hix : okSl Api_Item.ok x.Index) (hitl : (slL x.Items).length ≤ 1000000) (hixl : (slL x.Index).length ≤ 1000000) (hcl : (slL b.Code).length ≤ 1000000) (hop : x.Op = 3) (h : AHeap) :
    CallsA Tryd.prog 39 [.agg c.cells, .int .i64 t, .int .i64 a] h (fun v h2 => v = .bool (instrB c t b x a && (decide (x.Op = 17) == decide (a = (slL b.Code).length - 1))) ∧ Keeps h h2 (fun _ => False)) := by
  have kind : ∀ n : Int, btw n (slL b.Slots).length = true → ((gD b.Slots n).Kind = 1 ∨ (gD b.Slots n).Kind = 3) → (gD b.Slots n).Rec = 0 := fun n hq hk => by
    have := hsl _ (getI_mem (gD_some hq))
    unfold localB at this
    rw [if_neg (by omega)] at this
    simp only [Bool.and_eq_true, decide_eq_true_eq] at this
    exact this.2
  have hl := hasS_len 3
  have nq : (hasS 3 == [63]) = false := rfl
  have f100 : (hasS 3).contains 100 = true := rfl
  have f115 : (hasS 3).contains 115 = true := rfl
  have f114 : (hasS 3).contains 114 = true := rfl
  have f110 : (hasS 3).contains 110 = true := rfl
  have f116 : (hasS 3).contains 116 = false := rfl
  have f105 : (hasS 3).contains 105 = false := rfl
  have f120 : (hasS 3).contains 120 = false := rfl
  have wl : IntKind.i64.wrap (((slL b.Code).length : Int) - 1) = ((slL b.Code).length : Int) - 1 := wrapI (by omega) (by omega)
  apply padlockref09_instr_wp
  (repeat (first | simp -dsimp -implicitDefEqProofs (disch := omega) only [↓rP, rQ, rO, rL, ↓reduceIte, Nat.reduceEqDiff, Nat.reduceAdd, Nat.reduceLeDiff, pBuild, fillA, ↓tyr, ixI hb, ixI hx] | refine Cut.go ?_))
  have e2 : (h.push (.row 51 b.cells)).next = h.next + 1 := rfl
  have o1 : ((h.push (.row 51 b.cells)).push (.row 58 x.cells)).objs h.next = some (.row 51 b.cells) := by simp
  have o2 : ((h.push (.row 51 b.cells)).push (.row 58 x.cells)).objs (h.next + 1) = some (.row 58 x.cells) := by simp
  have nx : ((h.push (.row 51 b.cells)).push (.row 58 x.cells)).next = h.next + 2 := rfl
  have kH : Keeps h ((h.push (.row 51 b.cells)).push (.row 58 x.cells)) (fun _ => False) := (Keeps.one _ _).go (Keeps.one _ _)
  rw [e2]
  generalize ((h.push (.row 51 b.cells)).push (.row 58 x.cells)) = H at *
  simp only [hop]
  obtain ⟨l1, l2, g0, g1, std, dd0, dd1, dd3, sts, ss0, ss1, ss4, stds, ds0, ds1, ds3, ds4, px, pd, qx, kDSp, kSp, kG, kD, kS, kDS⟩ := ri_facts o1 o2 nx kH
  refine CallsA.go (ref_Has_does 3 _) ?_
  repeat' (first | (simp -dsimp -implicitDefEqProofs only [↓rP, rQ, rL, ↓reduceIte, Nat.reduceEqDiff, Nat.reduceAdd, Nat.reduceLeDiff, pBuild, fillA, ↓tyr, Int.reduceBEq, Int.reduceBNe, Int.reduceLT, Int.reduceLE, decide_true, decide_false, f100, f115, f114, f110, f116, f105, f120, nq, hop, ↓l1, ↓l2, wl, ixI hb, ixI hx, ↓g0, ↓g1, ↓std, ↓dd0, ↓dd1, ↓dd3, ↓sts, ↓ss0, ↓ss1, ↓ss4, ↓stds, ↓ds0, ↓ds1, ↓ds3, ↓ds4, ↓px, ↓pd, ↓qx]) | with_reducible refine Cut.go ?_ | with_reducible refine CallsA.go (has_100 _ hl _) ?_ | with_reducible refine CallsA.go (has_115 _ hl _) ?_ | with_reducible refine CallsA.go (has_114 _ hl _) ?_ | with_reducible refine CallsA.go (has_110 _ hl _) ?_ | with_reducible refine CallsA.go (has_116 _ hl _) ?_ | with_reducible refine CallsA.go (has_105 _ hl _) ?_ | with_reducible refine CallsA.go (has_120 _ hl _) ?_ | with_reducible refine CallsA.go (ref_in_does _ _ _) ?_ | with_reducible refine CallsA.go (ref_Inside_p c hs _ _ _) ?_ | with_reducible refine CallsA.go (ref_Good_does _ hn _ hit hitl _) ?_ | with_reducible refine CallsA.go (ref_Good_does _ hn _ hix hixl _) ?_ | with_reducible refine ixB_go (by assumption) ?_ | unfold padlockref09_instr_wp_p1 | unfold padlockref09_instr_wp_p2 | unfold padlockref09_instr_wp_p3 | unfold padlockref09_instr_wp_p4 | unfold padlockref09_instr_wp_p5 | (with_reducible refine Split.intro (fun hq => ?_) (fun hq => ?_) <;> (try simp only [Bool.not_eq_true', Bool.not_eq_false'] at hq) <;> (try rw [hq])))
  all_goals clear l1 l2 g0 g1 std dd0 dd1 dd3 sts ss0 ss1 ss4 stds ds0 ds1 ds3 ds4 px pd qx o1 o2
  all_goals refine And.intro (congrArg AV.bool ?_) (by first | exact kH | exact kG | exact kD _ | exact kS _ | exact kDS _ _ | exact kDSp _ _ _ | exact kSp _ _)
  all_goals clear kH kG kD kS kDS kDSp kSp nx wl nq hl f100 f115 f114 f110 f116 f105 f120 e2 hb hx hcl hixl hitl hix hit hn hs hc
  all_goals have kd := kind x.Dst
  all_goals have ks := kind x.Src
  all_goals clear kind
  all_goals clear hsl
  all_goals simp_all [fieldO_eq, instrB, loadsB, storesB, borderB, plainB, goesB, itemsB, siteB, sameB, isB_btw, isB_not, List.length_pos_iff, gD_some, getI_no, site_iff]
  all_goals try omega
  all_goals try (rw [Bool.eq_iff_iff]; simp_all [beqI]; try omega)
  all_goals try (split <;> simp_all)
  all_goals try omega
theorem ri_6 (c : Cd) (hc : c.ok) (hs : (slL c.Sections).length ≤ 1000000) (t a : Int) (b : Bd) (x : In) (hb : getI (slL c.Threads) t = some b) (hx : getI (slL b.Code) a = some x) (hsl : ∀ l ∈ slL b.Slots, localB c l = true)
    (hn : okI (slL b.Slots).length) (hit : okSl Api_Item.ok x.Items) (hix : okSl Api_Item.ok x.Index) (hitl : (slL x.Items).length ≤ 1000000) (hixl : (slL x.Index).length ≤ 1000000) (hcl : (slL b.Code).length ≤ 1000000) (hop : x.Op = 6) (h : AHeap) :
    CallsA Tryd.prog 39 [.agg c.cells, .int .i64 t, .int .i64 a] h (fun v h2 => v = .bool (instrB c t b x a && (decide (x.Op = 17) == decide (a = (slL b.Code).length - 1))) ∧ Keeps h h2 (fun _ => False)) := by
  have kind : ∀ n : Int, btw n (slL b.Slots).length = true → ((gD b.Slots n).Kind = 1 ∨ (gD b.Slots n).Kind = 3) → (gD b.Slots n).Rec = 0 := fun n hq hk => by
    have := hsl _ (getI_mem (gD_some hq))
    unfold localB at this
    rw [if_neg (by omega)] at this
    simp only [Bool.and_eq_true, decide_eq_true_eq] at this
    exact this.2
  have hl := hasS_len 6
  have nq : (hasS 6 == [63]) = false := rfl
  have f100 : (hasS 6).contains 100 = false := rfl
  have f115 : (hasS 6).contains 115 = true := rfl
  have f114 : (hasS 6).contains 114 = true := rfl
  have f110 : (hasS 6).contains 110 = true := rfl
  have f116 : (hasS 6).contains 116 = false := rfl
  have f105 : (hasS 6).contains 105 = true := rfl
  have f120 : (hasS 6).contains 120 = false := rfl
  have wl : IntKind.i64.wrap (((slL b.Code).length : Int) - 1) = ((slL b.Code).length : Int) - 1 := wrapI (by omega) (by omega)
  apply padlockref09_instr_wp
  (repeat (first | simp -dsimp -implicitDefEqProofs (disch := omega) only [↓rP, rQ, rO, rL, ↓reduceIte, Nat.reduceEqDiff, Nat.reduceAdd, Nat.reduceLeDiff, pBuild, fillA, ↓tyr, ixI hb, ixI hx] | refine Cut.go ?_))
  have e2 : (h.push (.row 51 b.cells)).next = h.next + 1 := rfl
  have o1 : ((h.push (.row 51 b.cells)).push (.row 58 x.cells)).objs h.next = some (.row 51 b.cells) := by simp
  have o2 : ((h.push (.row 51 b.cells)).push (.row 58 x.cells)).objs (h.next + 1) = some (.row 58 x.cells) := by simp
  have nx : ((h.push (.row 51 b.cells)).push (.row 58 x.cells)).next = h.next + 2 := rfl
  have kH : Keeps h ((h.push (.row 51 b.cells)).push (.row 58 x.cells)) (fun _ => False) := (Keeps.one _ _).go (Keeps.one _ _)
  rw [e2]
  generalize ((h.push (.row 51 b.cells)).push (.row 58 x.cells)) = H at *
  simp only [hop]
  obtain ⟨l1, l2, g0, g1, std, dd0, dd1, dd3, sts, ss0, ss1, ss4, stds, ds0, ds1, ds3, ds4, px, pd, qx, kDSp, kSp, kG, kD, kS, kDS⟩ := ri_facts o1 o2 nx kH
  refine CallsA.go (ref_Has_does 6 _) ?_
  repeat' (first | (simp -dsimp -implicitDefEqProofs only [↓rP, rQ, rL, ↓reduceIte, Nat.reduceEqDiff, Nat.reduceAdd, Nat.reduceLeDiff, pBuild, fillA, ↓tyr, Int.reduceBEq, Int.reduceBNe, Int.reduceLT, Int.reduceLE, decide_true, decide_false, f100, f115, f114, f110, f116, f105, f120, nq, hop, ↓l1, ↓l2, wl, ixI hb, ixI hx, ↓g0, ↓g1, ↓std, ↓dd0, ↓dd1, ↓dd3, ↓sts, ↓ss0, ↓ss1, ↓ss4, ↓stds, ↓ds0, ↓ds1, ↓ds3, ↓ds4, ↓px, ↓pd, ↓qx]) | with_reducible refine Cut.go ?_ | with_reducible refine CallsA.go (has_100 _ hl _) ?_ | with_reducible refine CallsA.go (has_115 _ hl _) ?_ | with_reducible refine CallsA.go (has_114 _ hl _) ?_ | with_reducible refine CallsA.go (has_110 _ hl _) ?_ | with_reducible refine CallsA.go (has_116 _ hl _) ?_ | with_reducible refine CallsA.go (has_105 _ hl _) ?_ | with_reducible refine CallsA.go (has_120 _ hl _) ?_ | with_reducible refine CallsA.go (ref_in_does _ _ _) ?_ | with_reducible refine CallsA.go (ref_Inside_p c hs _ _ _) ?_ | with_reducible refine CallsA.go (ref_Good_does _ hn _ hit hitl _) ?_ | with_reducible refine CallsA.go (ref_Good_does _ hn _ hix hixl _) ?_ | with_reducible refine ixB_go (by assumption) ?_ | unfold padlockref09_instr_wp_p1 | unfold padlockref09_instr_wp_p2 | unfold padlockref09_instr_wp_p3 | unfold padlockref09_instr_wp_p4 | unfold padlockref09_instr_wp_p5 | (with_reducible refine Split.intro (fun hq => ?_) (fun hq => ?_) <;> (try simp only [Bool.not_eq_true', Bool.not_eq_false'] at hq) <;> (try rw [hq])))
  all_goals clear l1 l2 g0 g1 std dd0 dd1 dd3 sts ss0 ss1 ss4 stds ds0 ds1 ds3 ds4 px pd qx o1 o2
  all_goals refine And.intro (congrArg AV.bool ?_) (by first | exact kH | exact kG | exact kD _ | exact kS _ | exact kDS _ _ | exact kDSp _ _ _ | exact kSp _ _)
  all_goals clear kH kG kD kS kDS kDSp kSp nx wl nq hl f100 f115 f114 f110 f116 f105 f120 e2 hb hx hcl hixl hitl hix hit hn hs hc
  all_goals have kd := kind x.Dst
  all_goals have ks := kind x.Src
  all_goals clear kind
  all_goals clear hsl
  all_goals simp_all [fieldO_eq, instrB, loadsB, storesB, borderB, plainB, goesB, itemsB, siteB, sameB, isB_btw, isB_not, List.length_pos_iff, gD_some, getI_no, site_iff]
  all_goals try omega
  all_goals try (rw [Bool.eq_iff_iff]; simp_all [beqI]; try omega)
  all_goals try (split <;> simp_all)
  all_goals try omega
end Go.Proofs.YtopfjochppdnfaaDoor
end

section
/- What the document's instr computes, kind by kind. -/
set_option maxRecDepth 100000
set_option maxHeartbeats 4000000
namespace Go.Proofs.YtopfjochppdnfaaDoor
open Go.Abs
theorem ri_8 (c : Cd) (hc : c.ok) (hs : (slL c.Sections).length ≤ 1000000) (t a : Int) (b : Bd) (x : In) (hb : getI (slL c.Threads) t = some b) (hx : getI (slL b.Code) a = some x) (hsl : ∀ l ∈ slL b.Slots, localB c l = true)
    (hn : okI (slL b.Slots).length) (hit : okSl Api_Item.ok x.Items) (hix : okSl Api_Item.ok x.Index) (hitl : (slL x.Items).length ≤ 1000000) (hixl : (slL x.Index).length ≤ 1000000) (hcl : (slL b.Code).length ≤ 1000000) (hop : x.Op = 8) (h : AHeap) :
    CallsA Tryd.prog 39 [.agg c.cells, .int .i64 t, .int .i64 a] h (fun v h2 => v = .bool (instrB c t b x a && (decide (x.Op = 17) == decide (a = (slL b.Code).length - 1))) ∧ Keeps h h2 (fun _ => False)) := by
  have kind : ∀ n : Int, btw n (slL b.Slots).length = true → ((gD b.Slots n).Kind = 1 ∨ (gD b.Slots n).Kind = 3) → (gD b.Slots n).Rec = 0 := fun n hq hk => by
    have := hsl _ (getI_mem (gD_some hq))
    unfold localB at this
    rw [if_neg (by omega)] at this
    simp only [Bool.and_eq_true, decide_eq_true_eq] at this
    exact this.2
  have hl := hasS_len 8
  have nq : (hasS 8 == [63]) = false := rfl
  have f100 : (hasS 8).contains 100 = true := rfl
  have f115 : (hasS 8).contains 115 = false := rfl
  have f114 : (hasS 8).contains 114 = true := rfl
  have f110 : (hasS 8).contains 110 = true := rfl
  have f116 : (hasS 8).contains 116 = false := rfl
  have f105 : (hasS 8).contains 105 = false := rfl
  have f120 : (hasS 8).contains 120 = false := rfl
  have wl : IntKind.i64.wrap (((slL b.Code).length : Int) - 1) = ((slL b.Code).length : Int) - 1 := wrapI (by omega) (by omega)
  apply padlockref09_instr_wp
  (repeat (first | simp -dsimp -implicitDefEqProofs (disch := omega) only [↓rP, rQ, rO, rL, ↓reduceIte, Nat.reduceEqDiff, Nat.reduceAdd, Nat.reduceLeDiff, pBuild, fillA, ↓tyr, ixI hb, ixI hx] | refine Cut.go ?_))
  have e2 : (h.push (.row 51 b.cells)).next = h.next + 1 := rfl
  have o1 : ((h.push (.row 51 b.cells)).push (.row 58 x.cells)).objs h.next = some (.row 51 b.cells) := by simp
  have o2 : ((h.push (.row 51 b.cells)).push (.row 58 x.cells)).objs (h.next + 1) = some (.row 58 x.cells) := by simp
  have nx : ((h.push (.row 51 b.cells)).push (.row 58 x.cells)).next = h.next + 2 := rfl
  have kH : Keeps h ((h.push (.row 51 b.cells)).push (.row 58 x.cells)) (fun _ => False) := (Keeps.one _ _).go (Keeps.one _ _)
  rw [e2]
  generalize ((h.push (.row 51 b.cells)).push (.row 58 x.cells)) = H at *
  simp only [hop]
  obtain ⟨l1, l2, g0, g1, std, dd0, dd1, dd3, sts, ss0, ss1, ss4, stds, ds0, ds1, ds3, ds4, px, pd, qx, kDSp, kSp, kG, kD, kS, kDS⟩ := ri_facts o1 o2 nx kH
  refine CallsA.go (ref_Has_does 8 _) ?_
  repeat' (first | (simp -dsimp -implicitDefEqProofs only [↓rP, rQ, rL, ↓reduceIte, Nat.reduceEqDiff, Nat.reduceAdd, Nat.reduceLeDiff, pBuild, fillA, ↓tyr, Int.reduceBEq, Int.reduceBNe, Int.reduceLT, Int.reduceLE, decide_true, decide_false, f100, f115, f114, f110, f116, f105, f120, nq, hop, ↓l1, ↓l2, wl, ixI hb, ixI hx, ↓g0, ↓g1, ↓std, ↓dd0, ↓dd1, ↓dd3, ↓sts, ↓ss0, ↓ss1, ↓ss4, ↓stds, ↓ds0, ↓ds1, ↓ds3, ↓ds4, ↓px, ↓pd, ↓qx]) | with_reducible refine Cut.go ?_ | with_reducible refine CallsA.go (has_100 _ hl _) ?_ | with_reducible refine CallsA.go (has_115 _ hl _) ?_ | with_reducible refine CallsA.go (has_114 _ hl _) ?_ | with_reducible refine CallsA.go (has_110 _ hl _) ?_ | with_reducible refine CallsA.go (has_116 _ hl _) ?_ | with_reducible refine CallsA.go (has_105 _ hl _) ?_ | with_reducible refine CallsA.go (has_120 _ hl _) ?_ | with_reducible refine CallsA.go (ref_in_does _ _ _) ?_ | with_reducible refine CallsA.go (ref_Inside_p c hs _ _ _) ?_ | with_reducible refine CallsA.go (ref_Good_does _ hn _ hit hitl _) ?_ | with_reducible refine CallsA.go (ref_Good_does _ hn _ hix hixl _) ?_ | with_reducible refine ixB_go (by assumption) ?_ | unfold padlockref09_instr_wp_p1 | unfold padlockref09_instr_wp_p2 | unfold padlockref09_instr_wp_p3 | unfold padlockref09_instr_wp_p4 | unfold padlockref09_instr_wp_p5 | (with_reducible refine Split.intro (fun hq => ?_) (fun hq => ?_) <;> (try simp only [Bool.not_eq_true', Bool.not_eq_false'] at hq) <;> (try rw [hq])))
  all_goals clear l1 l2 g0 g1 std dd0 dd1 dd3 sts ss0 ss1 ss4 stds ds0 ds1 ds3 ds4 px pd qx o1 o2
  all_goals refine And.intro (congrArg AV.bool ?_) (by first | exact kH | exact kG | exact kD _ | exact kS _ | exact kDS _ _ | exact kDSp _ _ _ | exact kSp _ _)
  all_goals clear kH kG kD kS kDS kDSp kSp nx wl nq hl f100 f115 f114 f110 f116 f105 f120 e2 hb hx hcl hixl hitl hix hit hn hs hc
  all_goals have kd := kind x.Dst
  all_goals have ks := kind x.Src
  all_goals clear kind
  all_goals clear hsl
  all_goals simp_all [fieldO_eq, instrB, loadsB, storesB, borderB, plainB, goesB, itemsB, siteB, sameB, isB_btw, isB_not, List.length_pos_iff, gD_some, getI_no, site_iff]
  all_goals try omega
  all_goals try (rw [Bool.eq_iff_iff]; simp_all [beqI]; try omega)
  all_goals try (split <;> simp_all)
  all_goals try omega
theorem ri_9 (c : Cd) (hc : c.ok) (hs : (slL c.Sections).length ≤ 1000000) (t a : Int) (b : Bd) (x : In) (hb : getI (slL c.Threads) t = some b) (hx : getI (slL b.Code) a = some x) (hsl : ∀ l ∈ slL b.Slots, localB c l = true)
    (hn : okI (slL b.Slots).length) (hit : okSl Api_Item.ok x.Items) (hix : okSl Api_Item.ok x.Index) (hitl : (slL x.Items).length ≤ 1000000) (hixl : (slL x.Index).length ≤ 1000000) (hcl : (slL b.Code).length ≤ 1000000) (hop : x.Op = 9) (h : AHeap) :
    CallsA Tryd.prog 39 [.agg c.cells, .int .i64 t, .int .i64 a] h (fun v h2 => v = .bool (instrB c t b x a && (decide (x.Op = 17) == decide (a = (slL b.Code).length - 1))) ∧ Keeps h h2 (fun _ => False)) := by
  have kind : ∀ n : Int, btw n (slL b.Slots).length = true → ((gD b.Slots n).Kind = 1 ∨ (gD b.Slots n).Kind = 3) → (gD b.Slots n).Rec = 0 := fun n hq hk => by
    have := hsl _ (getI_mem (gD_some hq))
    unfold localB at this
    rw [if_neg (by omega)] at this
    simp only [Bool.and_eq_true, decide_eq_true_eq] at this
    exact this.2
  have hl := hasS_len 9
  have nq : (hasS 9 == [63]) = false := rfl
  have f100 : (hasS 9).contains 100 = true := rfl
  have f115 : (hasS 9).contains 115 = false := rfl
  have f114 : (hasS 9).contains 114 = false := rfl
  have f110 : (hasS 9).contains 110 = true := rfl
  have f116 : (hasS 9).contains 116 = false := rfl
  have f105 : (hasS 9).contains 105 = true := rfl
  have f120 : (hasS 9).contains 120 = false := rfl
  have wl : IntKind.i64.wrap (((slL b.Code).length : Int) - 1) = ((slL b.Code).length : Int) - 1 := wrapI (by omega) (by omega)
  apply padlockref09_instr_wp
  (repeat (first | simp -dsimp -implicitDefEqProofs (disch := omega) only [↓rP, rQ, rO, rL, ↓reduceIte, Nat.reduceEqDiff, Nat.reduceAdd, Nat.reduceLeDiff, pBuild, fillA, ↓tyr, ixI hb, ixI hx] | refine Cut.go ?_))
  have e2 : (h.push (.row 51 b.cells)).next = h.next + 1 := rfl
  have o1 : ((h.push (.row 51 b.cells)).push (.row 58 x.cells)).objs h.next = some (.row 51 b.cells) := by simp
  have o2 : ((h.push (.row 51 b.cells)).push (.row 58 x.cells)).objs (h.next + 1) = some (.row 58 x.cells) := by simp
  have nx : ((h.push (.row 51 b.cells)).push (.row 58 x.cells)).next = h.next + 2 := rfl
  have kH : Keeps h ((h.push (.row 51 b.cells)).push (.row 58 x.cells)) (fun _ => False) := (Keeps.one _ _).go (Keeps.one _ _)
  rw [e2]
  generalize ((h.push (.row 51 b.cells)).push (.row 58 x.cells)) = H at *
  simp only [hop]
  obtain ⟨l1, l2, g0, g1, std, dd0, dd1, dd3, sts, ss0, ss1, ss4, stds, ds0, ds1, ds3, ds4, px, pd, qx, kDSp, kSp, kG, kD, kS, kDS⟩ := ri_facts o1 o2 nx kH
  refine CallsA.go (ref_Has_does 9 _) ?_
  repeat' (first | (simp -dsimp -implicitDefEqProofs only [↓rP, rQ, rL, ↓reduceIte, Nat.reduceEqDiff, Nat.reduceAdd, Nat.reduceLeDiff, pBuild, fillA, ↓tyr, Int.reduceBEq, Int.reduceBNe, Int.reduceLT, Int.reduceLE, decide_true, decide_false, f100, f115, f114, f110, f116, f105, f120, nq, hop, ↓l1, ↓l2, wl, ixI hb, ixI hx, ↓g0, ↓g1, ↓std, ↓dd0, ↓dd1, ↓dd3, ↓sts, ↓ss0, ↓ss1, ↓ss4, ↓stds, ↓ds0, ↓ds1, ↓ds3, ↓ds4, ↓px, ↓pd, ↓qx]) | with_reducible refine Cut.go ?_ | with_reducible refine CallsA.go (has_100 _ hl _) ?_ | with_reducible refine CallsA.go (has_115 _ hl _) ?_ | with_reducible refine CallsA.go (has_114 _ hl _) ?_ | with_reducible refine CallsA.go (has_110 _ hl _) ?_ | with_reducible refine CallsA.go (has_116 _ hl _) ?_ | with_reducible refine CallsA.go (has_105 _ hl _) ?_ | with_reducible refine CallsA.go (has_120 _ hl _) ?_ | with_reducible refine CallsA.go (ref_in_does _ _ _) ?_ | with_reducible refine CallsA.go (ref_Inside_p c hs _ _ _) ?_ | with_reducible refine CallsA.go (ref_Good_does _ hn _ hit hitl _) ?_ | with_reducible refine CallsA.go (ref_Good_does _ hn _ hix hixl _) ?_ | with_reducible refine ixB_go (by assumption) ?_ | unfold padlockref09_instr_wp_p1 | unfold padlockref09_instr_wp_p2 | unfold padlockref09_instr_wp_p3 | unfold padlockref09_instr_wp_p4 | unfold padlockref09_instr_wp_p5 | (with_reducible refine Split.intro (fun hq => ?_) (fun hq => ?_) <;> (try simp only [Bool.not_eq_true', Bool.not_eq_false'] at hq) <;> (try rw [hq])))
  all_goals clear l1 l2 g0 g1 std dd0 dd1 dd3 sts ss0 ss1 ss4 stds ds0 ds1 ds3 ds4 px pd qx o1 o2
  all_goals refine And.intro (congrArg AV.bool ?_) (by first | exact kH | exact kG | exact kD _ | exact kS _ | exact kDS _ _ | exact kDSp _ _ _ | exact kSp _ _)
  all_goals clear kH kG kD kS kDS kDSp kSp nx wl nq hl f100 f115 f114 f110 f116 f105 f120 e2 hb hx hcl hixl hitl hix hit hn hs hc
  all_goals have kd := kind x.Dst
  all_goals have ks := kind x.Src
  all_goals clear kind
  all_goals clear hsl
  all_goals simp_all [fieldO_eq, instrB, loadsB, storesB, borderB, plainB, goesB, itemsB, siteB, sameB, isB_btw, isB_not, List.length_pos_iff, gD_some, getI_no, site_iff]
  all_goals try omega
  all_goals try (rw [Bool.eq_iff_iff]; simp_all [beqI]; try omega)
  all_goals try (split <;> simp_all)
  all_goals try omega
theorem ri_15 (c : Cd) (hc : c.ok) (hs : (slL c.Sections).length ≤ 1000000) (t a : Int) (b : Bd) (x : In) (hb : getI (slL c.Threads) t = some b) (hx : getI (slL b.Code) a = some x) (hsl : ∀ l ∈ slL b.Slots, localB c l = true)
    (hn : okI (slL b.Slots).length) (hit : okSl Api_Item.ok x.Items) (hix : okSl Api_Item.ok x.Index) (hitl : (slL x.Items).length ≤ 1000000) (hixl : (slL x.Index).length ≤ 1000000) (hcl : (slL b.Code).length ≤ 1000000) (hop : x.Op = 15) (h : AHeap) :
    CallsA Tryd.prog 39 [.agg c.cells, .int .i64 t, .int .i64 a] h (fun v h2 => v = .bool (instrB c t b x a && (decide (x.Op = 17) == decide (a = (slL b.Code).length - 1))) ∧ Keeps h h2 (fun _ => False)) := by
  have kind : ∀ n : Int, btw n (slL b.Slots).length = true → ((gD b.Slots n).Kind = 1 ∨ (gD b.Slots n).Kind = 3) → (gD b.Slots n).Rec = 0 := fun n hq hk => by
    have := hsl _ (getI_mem (gD_some hq))
    unfold localB at this
    rw [if_neg (by omega)] at this
    simp only [Bool.and_eq_true, decide_eq_true_eq] at this
    exact this.2
  have hl := hasS_len 15
  have nq : (hasS 15 == [63]) = false := rfl
  have f100 : (hasS 15).contains 100 = false := rfl
  have f115 : (hasS 15).contains 115 = false := rfl
  have f114 : (hasS 15).contains 114 = false := rfl
  have f110 : (hasS 15).contains 110 = true := rfl
  have f116 : (hasS 15).contains 116 = false := rfl
  have f105 : (hasS 15).contains 105 = false := rfl
  have f120 : (hasS 15).contains 120 = false := rfl
  have wl : IntKind.i64.wrap (((slL b.Code).length : Int) - 1) = ((slL b.Code).length : Int) - 1 := wrapI (by omega) (by omega)
  apply padlockref09_instr_wp
  (repeat (first | simp -dsimp -implicitDefEqProofs (disch := omega) only [↓rP, rQ, rO, rL, ↓reduceIte, Nat.reduceEqDiff, Nat.reduceAdd, Nat.reduceLeDiff, pBuild, fillA, ↓tyr, ixI hb, ixI hx] | refine Cut.go ?_))
  have e2 : (h.push (.row 51 b.cells)).next = h.next + 1 := rfl
  have o1 : ((h.push (.row 51 b.cells)).push (.row 58 x.cells)).objs h.next = some (.row 51 b.cells) := by simp
  have o2 : ((h.push (.row 51 b.cells)).push (.row 58 x.cells)).objs (h.next + 1) = some (.row 58 x.cells) := by simp
  have nx : ((h.push (.row 51 b.cells)).push (.row 58 x.cells)).next = h.next + 2 := rfl
  have kH : Keeps h ((h.push (.row 51 b.cells)).push (.row 58 x.cells)) (fun _ => False) := (Keeps.one _ _).go (Keeps.one _ _)
  rw [e2]
  generalize ((h.push (.row 51 b.cells)).push (.row 58 x.cells)) = H at *
  simp only [hop]
  obtain ⟨l1, l2, g0, g1, std, dd0, dd1, dd3, sts, ss0, ss1, ss4, stds, ds0, ds1, ds3, ds4, px, pd, qx, kDSp, kSp, kG, kD, kS, kDS⟩ := ri_facts o1 o2 nx kH
  refine CallsA.go (ref_Has_does 15 _) ?_
  repeat' (first | (simp -dsimp -implicitDefEqProofs only [↓rP, rQ, rL, ↓reduceIte, Nat.reduceEqDiff, Nat.reduceAdd, Nat.reduceLeDiff, pBuild, fillA, ↓tyr, Int.reduceBEq, Int.reduceBNe, Int.reduceLT, Int.reduceLE, decide_true, decide_false, f100, f115, f114, f110, f116, f105, f120, nq, hop, ↓l1, ↓l2, wl, ixI hb, ixI hx, ↓g0, ↓g1, ↓std, ↓dd0, ↓dd1, ↓dd3, ↓sts, ↓ss0, ↓ss1, ↓ss4, ↓stds, ↓ds0, ↓ds1, ↓ds3, ↓ds4, ↓px, ↓pd, ↓qx]) | with_reducible refine Cut.go ?_ | with_reducible refine CallsA.go (has_100 _ hl _) ?_ | with_reducible refine CallsA.go (has_115 _ hl _) ?_ | with_reducible refine CallsA.go (has_114 _ hl _) ?_ | with_reducible refine CallsA.go (has_110 _ hl _) ?_ | with_reducible refine CallsA.go (has_116 _ hl _) ?_ | with_reducible refine CallsA.go (has_105 _ hl _) ?_ | with_reducible refine CallsA.go (has_120 _ hl _) ?_ | with_reducible refine CallsA.go (ref_in_does _ _ _) ?_ | with_reducible refine CallsA.go (ref_Inside_p c hs _ _ _) ?_ | with_reducible refine CallsA.go (ref_Good_does _ hn _ hit hitl _) ?_ | with_reducible refine CallsA.go (ref_Good_does _ hn _ hix hixl _) ?_ | with_reducible refine ixB_go (by assumption) ?_ | unfold padlockref09_instr_wp_p1 | unfold padlockref09_instr_wp_p2 | unfold padlockref09_instr_wp_p3 | unfold padlockref09_instr_wp_p4 | unfold padlockref09_instr_wp_p5 | (with_reducible refine Split.intro (fun hq => ?_) (fun hq => ?_) <;> (try simp only [Bool.not_eq_true', Bool.not_eq_false'] at hq) <;> (try rw [hq])))
  all_goals clear l1 l2 g0 g1 std dd0 dd1 dd3 sts ss0 ss1 ss4 stds ds0 ds1 ds3 ds4 px pd qx o1 o2
  all_goals refine And.intro (congrArg AV.bool ?_) (by first | exact kH | exact kG | exact kD _ | exact kS _ | exact kDS _ _ | exact kDSp _ _ _ | exact kSp _ _)
  all_goals clear kH kG kD kS kDS kDSp kSp nx wl nq hl f100 f115 f114 f110 f116 f105 f120 e2 hb hx hcl hixl hitl hix hit hn hs hc
  all_goals have kd := kind x.Dst
  all_goals have ks := kind x.Src
  all_goals clear kind
  all_goals clear hsl
  all_goals simp_all [fieldO_eq, instrB, loadsB, storesB, borderB, plainB, goesB, itemsB, siteB, sameB, isB_btw, isB_not, List.length_pos_iff, gD_some, getI_no, site_iff]
  all_goals try omega
  all_goals try (rw [Bool.eq_iff_iff]; simp_all [beqI]; try omega)
  all_goals try (split <;> simp_all)
  all_goals try omega
theorem ri_16 (c : Cd) (hc : c.ok) (hs : (slL c.Sections).length ≤ 1000000) (t a : Int) (b : Bd) (x : In) (hb : getI (slL c.Threads) t = some b) (hx : getI (slL b.Code) a = some x) (hsl : ∀ l ∈ slL b.Slots, localB c l = true)
    (hn : okI (slL b.Slots).length) (hit : okSl Api_Item.ok x.Items) (hix : okSl Api_Item.ok x.Index) (hitl : (slL x.Items).length ≤ 1000000) (hixl : (slL x.Index).length ≤ 1000000) (hcl : (slL b.Code).length ≤ 1000000) (hop : x.Op = 16) (h : AHeap) :
    CallsA Tryd.prog 39 [.agg c.cells, .int .i64 t, .int .i64 a] h (fun v h2 => v = .bool (instrB c t b x a && (decide (x.Op = 17) == decide (a = (slL b.Code).length - 1))) ∧ Keeps h h2 (fun _ => False)) := by
  have kind : ∀ n : Int, btw n (slL b.Slots).length = true → ((gD b.Slots n).Kind = 1 ∨ (gD b.Slots n).Kind = 3) → (gD b.Slots n).Rec = 0 := fun n hq hk => by
    have := hsl _ (getI_mem (gD_some hq))
    unfold localB at this
    rw [if_neg (by omega)] at this
    simp only [Bool.and_eq_true, decide_eq_true_eq] at this
    exact this.2
  have hl := hasS_len 16
  have nq : (hasS 16 == [63]) = false := rfl
  have f100 : (hasS 16).contains 100 = false := rfl
  have f115 : (hasS 16).contains 115 = false := rfl
  have f114 : (hasS 16).contains 114 = false := rfl
  have f110 : (hasS 16).contains 110 = true := rfl
  have f116 : (hasS 16).contains 116 = false := rfl
  have f105 : (hasS 16).contains 105 = false := rfl
  have f120 : (hasS 16).contains 120 = false := rfl
  have wl : IntKind.i64.wrap (((slL b.Code).length : Int) - 1) = ((slL b.Code).length : Int) - 1 := wrapI (by omega) (by omega)
  apply padlockref09_instr_wp
  (repeat (first | simp -dsimp -implicitDefEqProofs (disch := omega) only [↓rP, rQ, rO, rL, ↓reduceIte, Nat.reduceEqDiff, Nat.reduceAdd, Nat.reduceLeDiff, pBuild, fillA, ↓tyr, ixI hb, ixI hx] | refine Cut.go ?_))
  have e2 : (h.push (.row 51 b.cells)).next = h.next + 1 := rfl
  have o1 : ((h.push (.row 51 b.cells)).push (.row 58 x.cells)).objs h.next = some (.row 51 b.cells) := by simp
  have o2 : ((h.push (.row 51 b.cells)).push (.row 58 x.cells)).objs (h.next + 1) = some (.row 58 x.cells) := by simp
  have nx : ((h.push (.row 51 b.cells)).push (.row 58 x.cells)).next = h.next + 2 := rfl
  have kH : Keeps h ((h.push (.row 51 b.cells)).push (.row 58 x.cells)) (fun _ => False) := (Keeps.one _ _).go (Keeps.one _ _)
  rw [e2]
  generalize ((h.push (.row 51 b.cells)).push (.row 58 x.cells)) = H at *
  simp only [hop]
  obtain ⟨l1, l2, g0, g1, std, dd0, dd1, dd3, sts, ss0, ss1, ss4, stds, ds0, ds1, ds3, ds4, px, pd, qx, kDSp, kSp, kG, kD, kS, kDS⟩ := ri_facts o1 o2 nx kH
  refine CallsA.go (ref_Has_does 16 _) ?_
  repeat' (first | (simp -dsimp -implicitDefEqProofs only [↓rP, rQ, rL, ↓reduceIte, Nat.reduceEqDiff, Nat.reduceAdd, Nat.reduceLeDiff, pBuild, fillA, ↓tyr, Int.reduceBEq, Int.reduceBNe, Int.reduceLT, Int.reduceLE, decide_true, decide_false, f100, f115, f114, f110, f116, f105, f120, nq, hop, ↓l1, ↓l2, wl, ixI hb, ixI hx, ↓g0, ↓g1, ↓std, ↓dd0, ↓dd1, ↓dd3, ↓sts, ↓ss0, ↓ss1, ↓ss4, ↓stds, ↓ds0, ↓ds1, ↓ds3, ↓ds4, ↓px, ↓pd, ↓qx]) | with_reducible refine Cut.go ?_ | with_reducible refine CallsA.go (has_100 _ hl _) ?_ | with_reducible refine CallsA.go (has_115 _ hl _) ?_ | with_reducible refine CallsA.go (has_114 _ hl _) ?_ | with_reducible refine CallsA.go (has_110 _ hl _) ?_ | with_reducible refine CallsA.go (has_116 _ hl _) ?_ | with_reducible refine CallsA.go (has_105 _ hl _) ?_ | with_reducible refine CallsA.go (has_120 _ hl _) ?_ | with_reducible refine CallsA.go (ref_in_does _ _ _) ?_ | with_reducible refine CallsA.go (ref_Inside_p c hs _ _ _) ?_ | with_reducible refine CallsA.go (ref_Good_does _ hn _ hit hitl _) ?_ | with_reducible refine CallsA.go (ref_Good_does _ hn _ hix hixl _) ?_ | with_reducible refine ixB_go (by assumption) ?_ | unfold padlockref09_instr_wp_p1 | unfold padlockref09_instr_wp_p2 | unfold padlockref09_instr_wp_p3 | unfold padlockref09_instr_wp_p4 | unfold padlockref09_instr_wp_p5 | (with_reducible refine Split.intro (fun hq => ?_) (fun hq => ?_) <;> (try simp only [Bool.not_eq_true', Bool.not_eq_false'] at hq) <;> (try rw [hq])))
  all_goals clear l1 l2 g0 g1 std dd0 dd1 dd3 sts ss0 ss1 ss4 stds ds0 ds1 ds3 ds4 px pd qx o1 o2
  all_goals refine And.intro (congrArg AV.bool ?_) (by first | exact kH | exact kG | exact kD _ | exact kS _ | exact kDS _ _ | exact kDSp _ _ _ | exact kSp _ _)
  all_goals clear kH kG kD kS kDS kDSp kSp nx wl nq hl f100 f115 f114 f110 f116 f105 f120 e2 hb hx hcl hixl hitl hix hit hn hs hc
  all_goals have kd := kind x.Dst
  all_goals have ks := kind x.Src
  all_goals clear kind
  all_goals clear hsl
  all_goals simp_all [fieldO_eq, instrB, loadsB, storesB, borderB, plainB, goesB, itemsB, siteB, sameB, isB_btw, isB_not, List.length_pos_iff, gD_some, getI_no, site_iff]
  all_goals try omega
  all_goals try (rw [Bool.eq_iff_iff]; simp_all [beqI]; try omega)
  all_goals try (split <;> simp_all)
  all_goals try omega
end Go.Proofs.YtopfjochppdnfaaDoor
end

section
/- What the document's instr computes, of every instruction. -/
set_option maxRecDepth 100000
set_option maxHeartbeats 1000000
namespace Go.Proofs.YtopfjochppdnfaaDoor
open Go.Abs
noncomputable def instrR (c : Cd) (t : Int) (b : Bd) (x : In) (a : Int) : Bool := instrB c t b x a && (decide (x.Op = 17) == decide (a = (slL b.Code).length - 1))
theorem instrB_none {c : Cd} {t : Int} {b : Bd} {x : In} {a : Int} (ho : x.Op < 1 ∨ 17 < x.Op) : instrB c t b x a = false := by
  unfold instrB
  rw [if_neg (by omega), if_neg (by omega), if_neg (by omega), if_neg (by omega), if_neg (by omega), if_neg (by omega), if_neg (by omega), if_neg (by omega)]
  have : decide (x.Op = 17) = false := decide_eq_false (by omega)
  simp [this]
theorem ri_0 (c : Cd) (t a : Int) (b : Bd) (x : In) (hb : getI (slL c.Threads) t = some b) (hx : getI (slL b.Code) a = some x) (ho : x.Op < 1 ∨ 17 < x.Op) (h : AHeap) :
    CallsA Tryd.prog 39 [.agg c.cells, .int .i64 t, .int .i64 a] h (fun v h2 => v = .bool (instrR c t b x a) ∧ Keeps h h2 (fun _ => False)) := by
  have hs : hasS x.Op = [63] := by unfold hasS; rw [if_pos (by omega)]
  have nq : ([63] == ([63] : List UInt8)) = true := rfl
  apply padlockref09_instr_wp
  (repeat (first | simp -dsimp -implicitDefEqProofs (disch := omega) only [↓rP, rQ, rO, rL, ↓reduceIte, Nat.reduceEqDiff, Nat.reduceAdd, Nat.reduceLeDiff, pBuild, fillA, ↓tyr, ixI hb, ixI hx] | refine Cut.go ?_))
  refine CallsA.go (ref_Has_does x.Op _) ?_
  rw [hs]
  repeat' (first | (simp -dsimp -implicitDefEqProofs only [↓rP, rQ, rL, ↓reduceIte, Nat.reduceEqDiff, Nat.reduceAdd, Nat.reduceLeDiff, pBuild, fillA, ↓tyr, Int.reduceBEq, Int.reduceBNe, Int.reduceLT, Int.reduceLE, decide_true, decide_false, nq]) | with_reducible refine Cut.go ?_ | unfold padlockref09_instr_wp_p1 | unfold padlockref09_instr_wp_p2 | unfold padlockref09_instr_wp_p3 | unfold padlockref09_instr_wp_p4 | unfold padlockref09_instr_wp_p5)
  unfold instrR
  rw [instrB_none ho]
  exact ⟨rfl, (Keeps.one _ _).go (Keeps.one _ _)⟩
theorem ref_instr_does (c : Cd) (hc : c.ok) (sm : Small c) (t a : Int) (b : Bd) (x : In) (hb : getI (slL c.Threads) t = some b) (hx : getI (slL b.Code) a = some x) (hsl : ∀ l ∈ slL b.Slots, localB c l = true) (h : AHeap) :
    CallsA Tryd.prog 39 [.agg c.cells, .int .i64 t, .int .i64 a] h (fun v h2 => v = .bool (instrR c t b x a) ∧ h2 = h) := by
  have mb := getI_mem hb
  have mx := getI_mem hx
  have hs : (slL c.Sections).length ≤ 1000000 := by have := sm.secs; omega
  have h1 := sm.slots b mb
  have h2 := sm.code b mb
  have h3 := sm.items b mb x mx
  have h4 := sm.index b mb x mx
  have hxo := (hc.2.2.1.2 b mb).2.1.2 x mx
  have hit := hxo.2.2.2.2.2.2.1
  have hix := hxo.2.2.2.2.2.2.2
  have hn : okI (slL b.Slots).length := by unfold okI; omega
  refine CallsA.forget (by simp [idsIn]) ?_
  unfold instrR
  rcases (by omega : (x.Op < 1 ∨ 17 < x.Op) ∨ x.Op = 1 ∨ x.Op = 2 ∨ x.Op = 3 ∨ x.Op = 4 ∨ x.Op = 5 ∨ x.Op = 6 ∨ x.Op = 7 ∨ x.Op = 8 ∨ x.Op = 9 ∨ x.Op = 10 ∨ x.Op = 11 ∨ x.Op = 12 ∨ x.Op = 13 ∨ x.Op = 14 ∨ x.Op = 15 ∨ x.Op = 16 ∨ x.Op = 17) with ho | ho | ho | ho | ho | ho | ho | ho | ho | ho | ho | ho | ho | ho | ho | ho | ho | ho
  · exact ri_0 c t a b x hb hx ho h
  · exact ri_1 c hc hs t a b x hb hx hsl hn hit hix (by omega) (by omega) (by omega) ho h
  · exact ri_2 c hc hs t a b x hb hx hsl hn hit hix (by omega) (by omega) (by omega) ho h
  · exact ri_3 c hc hs t a b x hb hx hsl hn hit hix (by omega) (by omega) (by omega) ho h
  · exact ri_4 c hc hs t a b x hb hx hsl hn hit hix (by omega) (by omega) (by omega) ho h
  · exact ri_5 c hc hs t a b x hb hx hsl hn hit hix (by omega) (by omega) (by omega) ho h
  · exact ri_6 c hc hs t a b x hb hx hsl hn hit hix (by omega) (by omega) (by omega) ho h
  · exact ri_7 c hc hs t a b x hb hx hsl hn hit hix (by omega) (by omega) (by omega) ho h
  · exact ri_8 c hc hs t a b x hb hx hsl hn hit hix (by omega) (by omega) (by omega) ho h
  · exact ri_9 c hc hs t a b x hb hx hsl hn hit hix (by omega) (by omega) (by omega) ho h
  · exact ri_10 c hc hs t a b x hb hx hsl hn hit hix (by omega) (by omega) (by omega) ho h
  · exact ri_11 c hc hs t a b x hb hx hsl hn hit hix (by omega) (by omega) (by omega) ho h
  · exact ri_12 c hc hs t a b x hb hx hsl hn hit hix (by omega) (by omega) (by omega) ho h
  · exact ri_13 c hc hs t a b x hb hx hsl hn hit hix (by omega) (by omega) (by omega) ho h
  · exact ri_14 c hc hs t a b x hb hx hsl hn hit hix (by omega) (by omega) (by omega) ho h
  · exact ri_15 c hc hs t a b x hb hx hsl hn hit hix (by omega) (by omega) (by omega) ho h
  · exact ri_16 c hc hs t a b x hb hx hsl hn hit hix (by omega) (by omega) (by omega) ho h
  · exact ri_17 c hc hs t a b x hb hx hsl hn hit hix (by omega) (by omega) (by omega) ho h
end Go.Proofs.YtopfjochppdnfaaDoor
end

section
/- The document's Good: its loops within loops. -/
set_option maxRecDepth 100000
set_option maxHeartbeats 1000000
namespace Go.Proofs.YtopfjochppdnfaaDoor
open Go.Abs
theorem all_no {α : Type} {p : α → Bool} {l : List α} {k : Nat} {x : α} (hx : l[k]? = some x) (hp : p x = false) : l.all p = false := List.all_eq_false.2 ⟨x, List.mem_of_getElem? hx, by simp [hp]⟩
theorem all_yes {α : Type} {p : α → Bool} {l : List α} (h : upTo (fun _ x => p x) l l.length) : l.all p = true := by
  rw [List.all_eq_true]
  intro x hx
  obtain ⟨k, hk⟩ := List.getElem?_of_mem hx
  exact h k x (List.getElem?_eq_some_iff.1 hk).1 hk
theorem g_cells (c : Cd) (o : Option (List Lo)) (hl : (slL o).length ≤ 1000000) (a57 a58 a59 : AV) (h0 : AHeap) (Q : AExit → Fr → AHeap → Prop)
    (hret : ∀ h2, (slL o).all (fun x => !x.Once && localB c x) = false → Keeps h0 h2 (fun _ => False) → Q .ret (frOf [(2, .bool false)]) h2)
    (hex : ∀ h2, (slL o).all (fun x => !x.Once && localB c x) = true → Keeps h0 h2 (fun _ => False) → Q (.exit 2) (frOf [(1, .iptr c.cells), (57, a57), (58, a58), (59, a59)]) h2) :
    WP Tryd.prog 324 (.loop c_padlockref09_GoodR_10) (frOf [(1, .iptr c.cells), (57, a57), (58, a58), (59, a59), (71, slAV 3 Api_Local.cells o), (72, .int .i64 (slL o).length), (73, .int .i64 0)]) h0 Q := by
  obtain ⟨I, hI⟩ : ∃ I : Nat → Fr → AHeap → Prop, I = (fun n fr hh => ∃ k : Nat, k ≤ (slL o).length ∧ n = (slL o).length - k ∧ upTo (fun _ x => !x.Once && localB c x) (slL o) k ∧ Keeps h0 hh (fun _ => False) ∧ fr = frOf [(1, .iptr c.cells), (57, a57), (58, a58), (59, a59), (71, slAV 3 Api_Local.cells o), (72, .int .i64 (slL o).length), (73, .int .i64 k)]) := ⟨_, rfl⟩
  refine WP_loop mixed_ (by kernel_rfl) I (slL o).length (by rw [hI]; exact ⟨0, by omega, by omega, upTo_zero _ _, .refl _ _, rfl⟩) ?_
  intro n fr hh H
  rw [hI] at H
  obtain ⟨k, hk, rfl, hup, kp, rfl⟩ := H
  apply padlockref09_GoodR_loop10
  (repeat simp -dsimp -implicitDefEqProofs (disch := omega) only [↓rP, rQ, rO, rL, ↓reduceIte, Nat.reduceEqDiff, Nat.reduceAdd, Nat.reduceLeDiff, pBuild, fillA, ↓tyr])
  refine Split_lt (fun hkl => ?_) (fun hkl => ?_)
  · obtain ⟨x, hx⟩ : ∃ x, (slL o)[k]? = some x := ⟨_, List.getElem?_eq_getElem (by omega)⟩
    have kp1 := kp.go (Keeps.one hh (.row 69 x.cells))
    have on : (!x.Once && localB c x) = true → loopPost I ((slL o).length - k) Q .normal (frOf [(1, .iptr c.cells), (57, a57), (58, a58), (59, a59), (71, slAV 3 Api_Local.cells o), (72, .int .i64 (slL o).length), (73, .int .i64 (k + 1 : Nat))]) (hh.push (.row 69 x.cells)) := fun hp => by
      rw [loopPost_normal, hI]
      exact ⟨_, by omega, k + 1, by omega, rfl, upTo_succ hup hx hp, kp1, rfl⟩
    have no : (!x.Once && localB c x) = false → Q .ret (frOf [(2, .bool false)]) (hh.push (.row 69 x.cells)) := fun hp => hret _ (all_no hx hp) kp1
    (repeat simp -dsimp -implicitDefEqProofs (disch := omega) only [↓rP, rQ, rO, rL, ↓reduceIte, Nat.reduceEqDiff, Nat.reduceAdd, Nat.reduceLeDiff, pBuild, fillA, ↓tyr, pIndexAddr_slAV hx])
    rcases ho : x.Once with _ | _
    · (repeat simp -dsimp -implicitDefEqProofs (disch := omega) only [↓rP, rQ, rO, rL, ↓reduceIte, Nat.reduceEqDiff, Nat.reduceAdd, Nat.reduceLeDiff, pBuild, fillA, ↓tyr, ho])
      refine CallsA.go (ref_local_does c x _) ?_
      rcases hb : localB c x with _ | _
      · (repeat simp -dsimp -implicitDefEqProofs (disch := omega) only [↓rP, rQ, rO, rL, ↓reduceIte, Nat.reduceEqDiff, Nat.reduceAdd, Nat.reduceLeDiff, pBuild, fillA, ↓tyr, ho, Bool.not_false])
        exact no (by rw [ho, hb]; rfl)
      · (repeat simp -dsimp -implicitDefEqProofs (disch := omega) only [↓rP, rQ, rO, rL, ↓reduceIte, Nat.reduceEqDiff, Nat.reduceAdd, Nat.reduceLeDiff, pBuild, fillA, ↓tyr, ho, Bool.not_true, wkS k (by omega)])
        exact on (by rw [ho, hb]; rfl)
    · (repeat simp -dsimp -implicitDefEqProofs (disch := omega) only [↓rP, rQ, rO, rL, ↓reduceIte, Nat.reduceEqDiff, Nat.reduceAdd, Nat.reduceLeDiff, pBuild, fillA, ↓tyr, ho])
      exact no (by rw [ho]; rfl)
  · have hke : k = (slL o).length := by omega
    subst hke
    (repeat simp -dsimp -implicitDefEqProofs (disch := omega) only [↓rP, rQ, rO, rL, ↓reduceIte, Nat.reduceEqDiff, Nat.reduceAdd, Nat.reduceLeDiff, pBuild, fillA, ↓tyr])
    exact hex hh (all_yes hup) kp
theorem g_slots (c : Cd) (o : Option (List Lo)) (hl : (slL o).length ≤ 1000000) (a88 a89 a90 : AV) (h0 : AHeap) (Q : AExit → Fr → AHeap → Prop)
    (hret : ∀ h2, (slL o).all (localB c) = false → Keeps h0 h2 (fun _ => False) → Q .ret (frOf [(2, .bool false)]) h2)
    (hex : ∀ h2, (slL o).all (localB c) = true → Keeps h0 h2 (fun _ => False) → Q (.exit 6) (frOf [(1, .iptr c.cells), (88, a88), (89, a89), (90, a90)]) h2) :
    WP Tryd.prog 324 (.loop c_padlockref09_GoodR_22) (frOf [(1, .iptr c.cells), (88, a88), (89, a89), (90, a90), (121, slAV 3 Api_Local.cells o), (122, .int .i64 (slL o).length), (123, .int .i64 0)]) h0 Q := by
  obtain ⟨I, hI⟩ : ∃ I : Nat → Fr → AHeap → Prop, I = (fun n fr hh => ∃ k : Nat, k ≤ (slL o).length ∧ n = (slL o).length - k ∧ upTo (fun _ x => localB c x) (slL o) k ∧ Keeps h0 hh (fun _ => False) ∧ fr = frOf [(1, .iptr c.cells), (88, a88), (89, a89), (90, a90), (121, slAV 3 Api_Local.cells o), (122, .int .i64 (slL o).length), (123, .int .i64 k)]) := ⟨_, rfl⟩
  refine WP_loop mixed_ (by kernel_rfl) I (slL o).length (by rw [hI]; exact ⟨0, by omega, by omega, upTo_zero _ _, .refl _ _, rfl⟩) ?_
  intro n fr hh H
  rw [hI] at H
  obtain ⟨k, hk, rfl, hup, kp, rfl⟩ := H
  apply padlockref09_GoodR_loop22
  (repeat simp -dsimp -implicitDefEqProofs (disch := omega) only [↓rP, rQ, rO, rL, ↓reduceIte, Nat.reduceEqDiff, Nat.reduceAdd, Nat.reduceLeDiff, pBuild, fillA, ↓tyr])
  refine Split_lt (fun hkl => ?_) (fun hkl => ?_)
  · obtain ⟨x, hx⟩ : ∃ x, (slL o)[k]? = some x := ⟨_, List.getElem?_eq_getElem (by omega)⟩
    have kp1 := kp.go (Keeps.one hh (.row 69 x.cells))
    (repeat simp -dsimp -implicitDefEqProofs (disch := omega) only [↓rP, rQ, rO, rL, ↓reduceIte, Nat.reduceEqDiff, Nat.reduceAdd, Nat.reduceLeDiff, pBuild, fillA, ↓tyr, pIndexAddr_slAV hx])
    refine CallsA.go (ref_local_does c x _) ?_
    rcases hb : localB c x with _ | _
    · (repeat simp -dsimp -implicitDefEqProofs (disch := omega) only [↓rP, rQ, rO, rL, ↓reduceIte, Nat.reduceEqDiff, Nat.reduceAdd, Nat.reduceLeDiff, pBuild, fillA, ↓tyr, Bool.not_false])
      exact hret _ (all_no hx hb) kp1
    · (repeat simp -dsimp -implicitDefEqProofs (disch := omega) only [↓rP, rQ, rO, rL, ↓reduceIte, Nat.reduceEqDiff, Nat.reduceAdd, Nat.reduceLeDiff, pBuild, fillA, ↓tyr, Bool.not_true, wkS k (by omega)])
      rw [loopPost_normal, hI]
      exact ⟨_, by omega, k + 1, by omega, rfl, upTo_succ hup hx hb, kp1, rfl⟩
  · have hke : k = (slL o).length := by omega
    subst hke
    (repeat simp -dsimp -implicitDefEqProofs (disch := omega) only [↓rP, rQ, rO, rL, ↓reduceIte, Nat.reduceEqDiff, Nat.reduceAdd, Nat.reduceLeDiff, pBuild, fillA, ↓tyr])
    exact hex hh (all_yes hup) kp
theorem g_instrs (c : Cd) (hc : c.ok) (sm : Small c) (i : Nat) (b : Bd) (hb : (slL c.Threads)[i]? = some b) (hsl : ∀ l ∈ slL b.Slots, localB c l = true) (a304 a305 a306 : AV) (h0 : AHeap) (Q : AExit → Fr → AHeap → Prop)
    (hret : allK (fun k x => instrR c i b x k) (slL b.Code) = false → Q .ret (frOf [(2, .bool false)]) h0)
    (hex : allK (fun k x => instrR c i b x k) (slL b.Code) = true → Q (.exit 16) (frOf [(1, .iptr c.cells), (304, a304), (305, a305), (306, a306)]) h0) :
    WP Tryd.prog 324 (.loop c_padlockref09_GoodR_56) (frOf [(1, .iptr c.cells), (20, .int .i64 i), (304, a304), (305, a305), (306, a306), (313, .int .i64 (slL b.Code).length), (314, .int .i64 0)]) h0 Q := by
  have hcl := sm.code b (List.mem_of_getElem? hb)
  obtain ⟨I, hI⟩ : ∃ I : Nat → Fr → AHeap → Prop, I = (fun n fr hh => ∃ k : Nat, k ≤ (slL b.Code).length ∧ n = (slL b.Code).length - k ∧ upTo (fun k x => instrR c i b x k) (slL b.Code) k ∧ hh = h0 ∧ fr = frOf [(1, .iptr c.cells), (20, .int .i64 i), (304, a304), (305, a305), (306, a306), (313, .int .i64 (slL b.Code).length), (314, .int .i64 k)]) := ⟨_, rfl⟩
  refine WP_loop mixed_ (by kernel_rfl) I (slL b.Code).length (by rw [hI]; exact ⟨0, by omega, by omega, upTo_zero _ _, rfl, rfl⟩) ?_
  intro n fr hh H
  rw [hI] at H
  obtain ⟨k, hk, rfl, hup, rfl, rfl⟩ := H
  apply padlockref09_GoodR_loop56
  (repeat simp -dsimp -implicitDefEqProofs (disch := omega) only [↓rP, rQ, rO, rL, ↓reduceIte, Nat.reduceEqDiff, Nat.reduceAdd, Nat.reduceLeDiff, pBuild, fillA, ↓tyr])
  refine Split_lt (fun hkl => ?_) (fun hkl => ?_)
  · obtain ⟨x, hx⟩ : ∃ x, (slL b.Code)[k]? = some x := ⟨_, List.getElem?_eq_getElem (by omega)⟩
    (repeat simp -dsimp -implicitDefEqProofs (disch := omega) only [↓rP, rQ, rO, rL, ↓reduceIte, Nat.reduceEqDiff, Nat.reduceAdd, Nat.reduceLeDiff, pBuild, fillA, ↓tyr])
    refine CallsA.go (ref_instr_does c hc sm i k b x (by rw [getI_natCast]; exact hb) (by rw [getI_natCast]; exact hx) hsl _) ?_
    rcases hi : instrR c i b x k with _ | _
    · (repeat simp -dsimp -implicitDefEqProofs (disch := omega) only [↓rP, rQ, rO, rL, ↓reduceIte, Nat.reduceEqDiff, Nat.reduceAdd, Nat.reduceLeDiff, pBuild, fillA, ↓tyr, Bool.not_false])
      exact hret (allK_false hx hi)
    · (repeat simp -dsimp -implicitDefEqProofs (disch := omega) only [↓rP, rQ, rO, rL, ↓reduceIte, Nat.reduceEqDiff, Nat.reduceAdd, Nat.reduceLeDiff, pBuild, fillA, ↓tyr, Bool.not_true, wkS k (by omega)])
      rw [loopPost_normal, hI]
      exact ⟨_, by omega, k + 1, by omega, rfl, upTo_succ hup hx hi, rfl, rfl⟩
  · have hke : k = (slL b.Code).length := by omega
    subst hke
    (repeat simp -dsimp -implicitDefEqProofs (disch := omega) only [↓rP, rQ, rO, rL, ↓reduceIte, Nat.reduceEqDiff, Nat.reduceAdd, Nat.reduceLeDiff, pBuild, fillA, ↓tyr])
    exact hex (upTo_all hup)
end Go.Proofs.YtopfjochppdnfaaDoor
end

section
/- The document's Good: its outer loops. -/
set_option maxRecDepth 100000
set_option maxHeartbeats 1000000
namespace Go.Proofs.YtopfjochppdnfaaDoor
open Go.Abs
def cellP (c : Cd) (o : Option (List Lo)) : Bool := (slL o).all (fun x => !x.Once && localB c x)
def rowP (c : Cd) (i : Nat) (o : Option (List Lo)) : Bool := !(decide (0 < i) && decide (6 < (slL o).length)) && cellP c o
theorem g_rows (c : Cd) (ls : List (Option (List Lo))) (hl : ls.length ≤ 1000) (hr : ∀ o ∈ ls, (slL o).length ≤ 1000) (h0 : AHeap) (id : Nat) (hid : id < h0.next) (ho : h0.objs id = some (.row 39 (ls.map fun o => slAV 3 Api_Local.cells o))) (Q : AExit → Fr → AHeap → Prop)
    (hret : ∀ h2, allK (rowP c) ls = false → Keeps h0 h2 (fun _ => False) → Q .ret (frOf [(2, .bool false)]) h2)
    (hex : ∀ h2, allK (rowP c) ls = true → Keeps h0 h2 (fun _ => False) → Q (.exit 0) (frOf [(1, .iptr c.cells)]) h2) :
    WP Tryd.prog 324 (.loop c_padlockref09_GoodR_5) (frOf [(1, .iptr c.cells), (57, .sl id 0 ls.length 1), (58, .int .i64 ls.length), (59, .int .i64 0)]) h0 Q := by
  obtain ⟨I, hI⟩ : ∃ I : Nat → Fr → AHeap → Prop, I = (fun n fr hh => ∃ k : Nat, k ≤ ls.length ∧ n = ls.length - k ∧ upTo (rowP c) ls k ∧ Keeps h0 hh (fun _ => False) ∧ fr = frOf [(1, .iptr c.cells), (57, .sl id 0 ls.length 1), (58, .int .i64 ls.length), (59, .int .i64 k)]) := ⟨_, rfl⟩
  refine WP_loop mixed_ (by kernel_rfl) I ls.length (by rw [hI]; exact ⟨0, by omega, by omega, upTo_zero _ _, .refl _ _, rfl⟩) ?_
  intro n fr hh H
  rw [hI] at H
  obtain ⟨k, hk, rfl, hup, kp, rfl⟩ := H
  apply padlockref09_GoodR_loop5
  (repeat simp -dsimp -implicitDefEqProofs (disch := omega) only [↓rP, rQ, rO, rL, ↓reduceIte, Nat.reduceEqDiff, Nat.reduceAdd, Nat.reduceLeDiff, pBuild, fillA, ↓tyr])
  refine Split_lt (fun hkl => ?_) (fun hkl => ?_)
  · obtain ⟨o, hx⟩ : ∃ o, ls[k]? = some o := ⟨_, List.getElem?_eq_getElem (by omega)⟩
    have hol := hr o (List.mem_of_getElem? hx)
    have ix : ∀ K : AV → Prop, pIndexAddr (.slice 1) (.sl id 0 ls.length 1) (.int .i64 (k : Int)) K = K (.ptr id k) := fun K => by
      simp [pIndexAddr]; omega
    have ho2 : hh.objs id = some (.row 39 (ls.map fun o => slAV 3 Api_Local.cells o)) := by rw [kp.objs id hid (by simp)]; exact ho
    have ld : ∀ K : AV → Prop, pLoad none (.ptr id k) hh K = K (slAV 3 Api_Local.cells o) := fun K => by
      rw [pLoad_ptr ho2, pCells_none_some (v := slAV 3 Api_Local.cells o) (by rw [List.getElem?_map, hx]; rfl)]
    have bad : rowP c k o = false → allK (rowP c) ls = false := fun hp => allK_false hx hp
    have inner : rowP c k o = cellP c o → WP Tryd.prog 324 (.loop c_padlockref09_GoodR_10) (frOf [(1, .iptr c.cells), (57, .sl id 0 ls.length 1), (58, .int .i64 ls.length), (59, .int .i64 k), (71, slAV 3 Api_Local.cells o), (72, .int .i64 (slL o).length), (73, .int .i64 0)]) hh (fun e fr h2 => match e with | .ret => cellP c o = false ∧ Keeps hh h2 (fun _ => False) ∧ fr = frOf [(2, .bool false)] | .exit i => i = 2 ∧ cellP c o = true ∧ Keeps hh h2 (fun _ => False) ∧ fr = frOf [(1, .iptr c.cells), (57, .sl id 0 ls.length 1), (58, .int .i64 ls.length), (59, .int .i64 k)] | .normal => False) := fun _ =>
      g_cells c o (by omega) _ _ _ hh _ (fun h2 h k => ⟨h, k, rfl⟩) (fun h2 h k => ⟨rfl, h, k, rfl⟩)
    (repeat simp -dsimp -implicitDefEqProofs (disch := omega) only [↓rP, rQ, rO, rL, ↓reduceIte, Nat.reduceEqDiff, Nat.reduceAdd, Nat.reduceLeDiff, pBuild, fillA, ↓tyr, ↓ix, ↓ld])
    refine Split_lt (fun h0k => ?_) (fun h0k => ?_)
    · (repeat simp -dsimp -implicitDefEqProofs (disch := omega) only [↓rP, rQ, rO, rL, ↓reduceIte, Nat.reduceEqDiff, Nat.reduceAdd, Nat.reduceLeDiff, pBuild, fillA, ↓tyr, ↓ix, ↓ld])
      refine Split_lt (fun h6 => ?_) (fun h6 => ?_)
      · (repeat simp -dsimp -implicitDefEqProofs (disch := omega) only [↓rP, rQ, rO, rL, ↓reduceIte, Nat.reduceEqDiff, Nat.reduceAdd, Nat.reduceLeDiff, pBuild, fillA, ↓tyr])
        have e1 : decide (0 < k) = true := decide_eq_true (by omega)
        have e2 : decide (6 < (slL o).length) = true := decide_eq_true (by omega)
        exact hret hh (bad (by unfold rowP; rw [e1, e2]; rfl)) kp
      · have e2 : decide (6 < (slL o).length) = false := decide_eq_false (by omega)
        have e : rowP c k o = cellP c o := by unfold rowP; rw [e2, Bool.and_false]; rfl
        (repeat simp -dsimp -implicitDefEqProofs (disch := omega) only [↓rP, rQ, rO, rL, ↓reduceIte, Nat.reduceEqDiff, Nat.reduceAdd, Nat.reduceLeDiff, pBuild, fillA, ↓tyr])
        refine (inner e).mono ?_
        rintro (_ | i | _) fr h2 hq
        · exact hq.elim
        · obtain ⟨rfl, q1, q2, rfl⟩ := hq
          (repeat simp -dsimp -implicitDefEqProofs (disch := omega) only [↓rP, rQ, rO, rL, ↓reduceIte, Nat.reduceEqDiff, Nat.reduceAdd, Nat.reduceLeDiff, pBuild, fillA, ↓tyr, wkS k (by omega)])
          rw [loopPost_normal, hI]
          exact ⟨_, by omega, k + 1, by omega, rfl, upTo_succ hup hx (by rw [e]; exact q1), kp.go q2, rfl⟩
        · obtain ⟨q1, q2, rfl⟩ := hq
          (repeat simp -dsimp -implicitDefEqProofs (disch := omega) only [↓rP, rQ, rO, rL, ↓reduceIte, Nat.reduceEqDiff, Nat.reduceAdd, Nat.reduceLeDiff, pBuild, fillA, ↓tyr])
          exact hret h2 (bad (by rw [e]; exact q1)) (kp.go q2)
    · have e1 : decide (0 < k) = false := decide_eq_false (by omega)
      have e : rowP c k o = cellP c o := by unfold rowP; rw [e1, Bool.false_and]; rfl
      (repeat simp -dsimp -implicitDefEqProofs (disch := omega) only [↓rP, rQ, rO, rL, ↓reduceIte, Nat.reduceEqDiff, Nat.reduceAdd, Nat.reduceLeDiff, pBuild, fillA, ↓tyr])
      refine (inner e).mono ?_
      rintro (_ | i | _) fr h2 hq
      · exact hq.elim
      · obtain ⟨rfl, q1, q2, rfl⟩ := hq
        (repeat simp -dsimp -implicitDefEqProofs (disch := omega) only [↓rP, rQ, rO, rL, ↓reduceIte, Nat.reduceEqDiff, Nat.reduceAdd, Nat.reduceLeDiff, pBuild, fillA, ↓tyr, wkS k (by omega)])
        rw [loopPost_normal, hI]
        exact ⟨_, by omega, k + 1, by omega, rfl, upTo_succ hup hx (by rw [e]; exact q1), kp.go q2, rfl⟩
      · obtain ⟨q1, q2, rfl⟩ := hq
        (repeat simp -dsimp -implicitDefEqProofs (disch := omega) only [↓rP, rQ, rO, rL, ↓reduceIte, Nat.reduceEqDiff, Nat.reduceAdd, Nat.reduceLeDiff, pBuild, fillA, ↓tyr])
        exact hret h2 (bad (by rw [e]; exact q1)) (kp.go q2)
  · have hke : k = ls.length := by omega
    subst hke
    (repeat simp -dsimp -implicitDefEqProofs (disch := omega) only [↓rP, rQ, rO, rL, ↓reduceIte, Nat.reduceEqDiff, Nat.reduceAdd, Nat.reduceLeDiff, pBuild, fillA, ↓tyr])
    exact hex hh (upTo_all hup) kp
theorem g_bodies (c : Cd) (sm : Small c) (h0 : AHeap) (Q : AExit → Fr → AHeap → Prop)
    (hret : ∀ h2, (slL c.Threads).all (bodyB c) = false → Keeps h0 h2 (fun _ => False) → Q .ret (frOf [(2, .bool false)]) h2)
    (hex : ∀ h2, (slL c.Threads).all (bodyB c) = true → Keeps h0 h2 (fun _ => False) → Q (.exit 4) (frOf [(1, .iptr c.cells)]) h2) :
    WP Tryd.prog 324 (.loop c_padlockref09_GoodR_17) (frOf [(1, .iptr c.cells), (88, slAV 3 Api_Body.cells c.Threads), (89, .int .i64 (slL c.Threads).length), (90, .int .i64 0)]) h0 Q := by
  have hth := sm.threads
  obtain ⟨I, hI⟩ : ∃ I : Nat → Fr → AHeap → Prop, I = (fun n fr hh => ∃ k : Nat, k ≤ (slL c.Threads).length ∧ n = (slL c.Threads).length - k ∧ upTo (fun _ b => bodyB c b) (slL c.Threads) k ∧ Keeps h0 hh (fun _ => False) ∧ fr = frOf [(1, .iptr c.cells), (88, slAV 3 Api_Body.cells c.Threads), (89, .int .i64 (slL c.Threads).length), (90, .int .i64 k)]) := ⟨_, rfl⟩
  refine WP_loop mixed_ (by kernel_rfl) I (slL c.Threads).length (by rw [hI]; exact ⟨0, by omega, by omega, upTo_zero _ _, .refl _ _, rfl⟩) ?_
  intro n fr hh H
  rw [hI] at H
  obtain ⟨k, hk, rfl, hup, kp, rfl⟩ := H
  apply padlockref09_GoodR_loop17
  (repeat simp -dsimp -implicitDefEqProofs (disch := omega) only [↓rP, rQ, rO, rL, ↓reduceIte, Nat.reduceEqDiff, Nat.reduceAdd, Nat.reduceLeDiff, pBuild, fillA, ↓tyr])
  refine Split_lt (fun hkl => ?_) (fun hkl => ?_)
  · obtain ⟨b, hx⟩ : ∃ b, (slL c.Threads)[k]? = some b := ⟨_, List.getElem?_eq_getElem (by omega)⟩
    have kp1 := kp.go (Keeps.one hh (.row 51 b.cells))
    have hsl := sm.slots b (List.mem_of_getElem? hx)
    have no : bodyB c b = false → Q .ret (frOf [(2, .bool false)]) (hh.push (.row 51 b.cells)) := fun hp => hret _ (all_no hx hp) kp1
    (repeat simp -dsimp -implicitDefEqProofs (disch := omega) only [↓rP, rQ, rO, rL, ↓reduceIte, Nat.reduceEqDiff, Nat.reduceAdd, Nat.reduceLeDiff, pBuild, fillA, ↓tyr, pIndexAddr_slAV hx])
    refine Split_lt (fun h1 => ?_) (fun h1 => ?_)
    · (repeat simp -dsimp -implicitDefEqProofs (disch := omega) only [↓rP, rQ, rO, rL, ↓reduceIte, Nat.reduceEqDiff, Nat.reduceAdd, Nat.reduceLeDiff, pBuild, fillA, ↓tyr])
      exact no (by simp [bodyB]; intros; omega)
    (repeat simp -dsimp -implicitDefEqProofs (disch := omega) only [↓rP, rQ, rO, rL, ↓reduceIte, Nat.reduceEqDiff, Nat.reduceAdd, Nat.reduceLeDiff, pBuild, fillA, ↓tyr])
    refine Split_lt (fun h2 => ?_) (fun h2 => ?_)
    · (repeat simp -dsimp -implicitDefEqProofs (disch := omega) only [↓rP, rQ, rO, rL, ↓reduceIte, Nat.reduceEqDiff, Nat.reduceAdd, Nat.reduceLeDiff, pBuild, fillA, ↓tyr])
      exact no (by simp [bodyB]; intros; omega)
    (repeat simp -dsimp -implicitDefEqProofs (disch := omega) only [↓rP, rQ, rO, rL, ↓reduceIte, Nat.reduceEqDiff, Nat.reduceAdd, Nat.reduceLeDiff, pBuild, fillA, ↓tyr])
    refine Split_lt (fun h3 => ?_) (fun h3 => ?_)
    · (repeat simp -dsimp -implicitDefEqProofs (disch := omega) only [↓rP, rQ, rO, rL, ↓reduceIte, Nat.reduceEqDiff, Nat.reduceAdd, Nat.reduceLeDiff, pBuild, fillA, ↓tyr])
      exact no (by simp [bodyB]; intros; omega)
    (repeat simp -dsimp -implicitDefEqProofs (disch := omega) only [↓rP, rQ, rO, rL, ↓reduceIte, Nat.reduceEqDiff, Nat.reduceAdd, Nat.reduceLeDiff, pBuild, fillA, ↓tyr])
    refine Split_lt (fun h4 => ?_) (fun h4 => ?_)
    · (repeat simp -dsimp -implicitDefEqProofs (disch := omega) only [↓rP, rQ, rO, rL, ↓reduceIte, Nat.reduceEqDiff, Nat.reduceAdd, Nat.reduceLeDiff, pBuild, fillA, ↓tyr])
      exact no (by simp [bodyB]; intros; omega)
    (repeat simp -dsimp -implicitDefEqProofs (disch := omega) only [↓rP, rQ, rO, rL, ↓reduceIte, Nat.reduceEqDiff, Nat.reduceAdd, Nat.reduceLeDiff, pBuild, fillA, ↓tyr])
    refine Split_lt (fun h5 => ?_) (fun h5 => ?_)
    · (repeat simp -dsimp -implicitDefEqProofs (disch := omega) only [↓rP, rQ, rO, rL, ↓reduceIte, Nat.reduceEqDiff, Nat.reduceAdd, Nat.reduceLeDiff, pBuild, fillA, ↓tyr])
      exact no (by simp [bodyB]; intros; omega)
    have e : bodyB c b = (slL b.Slots).all (localB c) := by
      unfold bodyB
      rw [decide_eq_true (by omega : (slL b.Slots).length ≤ 64), decide_eq_true (by omega : 1 ≤ (slL b.Code).length), decide_eq_true (by omega : (slL b.Code).length ≤ 256), decide_eq_true (by omega : 0 ≤ b.Most), decide_eq_true (by omega : b.Most ≤ 4096)]
      rfl
    (repeat simp -dsimp -implicitDefEqProofs (disch := omega) only [↓rP, rQ, rO, rL, ↓reduceIte, Nat.reduceEqDiff, Nat.reduceAdd, Nat.reduceLeDiff, pBuild, fillA, ↓tyr])
    refine g_slots c b.Slots (by omega) _ _ _ _ _ (fun h2 hg k2 => ?_) (fun h2 hg k2 => ?_)
    · (repeat simp -dsimp -implicitDefEqProofs (disch := omega) only [↓rP, rQ, rO, rL, ↓reduceIte, Nat.reduceEqDiff, Nat.reduceAdd, Nat.reduceLeDiff, pBuild, fillA, ↓tyr])
      exact hret _ (all_no hx (by rw [e]; exact hg)) (kp1.go k2)
    · (repeat simp -dsimp -implicitDefEqProofs (disch := omega) only [↓rP, rQ, rO, rL, ↓reduceIte, Nat.reduceEqDiff, Nat.reduceAdd, Nat.reduceLeDiff, pBuild, fillA, ↓tyr, wkS k (by omega)])
      rw [loopPost_normal, hI]
      exact ⟨_, by omega, k + 1, by omega, rfl, upTo_succ hup hx (by rw [e]; exact hg), kp1.go k2, rfl⟩
  · have hke : k = (slL c.Threads).length := by omega
    subst hke
    (repeat simp -dsimp -implicitDefEqProofs (disch := omega) only [↓rP, rQ, rO, rL, ↓reduceIte, Nat.reduceEqDiff, Nat.reduceAdd, Nat.reduceLeDiff, pBuild, fillA, ↓tyr])
    exact hex hh (all_yes hup) kp
theorem g_threads (c : Cd) (hc : c.ok) (sm : Small c) (hbd : (slL c.Threads).all (bodyB c) = true) (h0 : AHeap) (Q : AExit → Fr → AHeap → Prop)
    (hret : ∀ h2, allK (fun i b => allK (fun k x => instrR c i b x k) (slL b.Code)) (slL c.Threads) = false → Keeps h0 h2 (fun _ => False) → Q .ret (frOf [(2, .bool false)]) h2)
    (hex : ∀ h2, allK (fun i b => allK (fun k x => instrR c i b x k) (slL b.Code)) (slL c.Threads) = true → Keeps h0 h2 (fun _ => False) → Q (.exit 14) (frOf []) h2) :
    WP Tryd.prog 324 (.loop c_padlockref09_GoodR_53) (frOf [(1, .iptr c.cells), (304, slAV 3 Api_Body.cells c.Threads), (305, .int .i64 (slL c.Threads).length), (306, .int .i64 0)]) h0 Q := by
  have hth := sm.threads
  obtain ⟨I, hI⟩ : ∃ I : Nat → Fr → AHeap → Prop, I = (fun n fr hh => ∃ k : Nat, k ≤ (slL c.Threads).length ∧ n = (slL c.Threads).length - k ∧ upTo (fun i b => allK (fun k x => instrR c i b x k) (slL b.Code)) (slL c.Threads) k ∧ Keeps h0 hh (fun _ => False) ∧ fr = frOf [(1, .iptr c.cells), (304, slAV 3 Api_Body.cells c.Threads), (305, .int .i64 (slL c.Threads).length), (306, .int .i64 k)]) := ⟨_, rfl⟩
  refine WP_loop mixed_ (by kernel_rfl) I (slL c.Threads).length (by rw [hI]; exact ⟨0, by omega, by omega, upTo_zero _ _, .refl _ _, rfl⟩) ?_
  intro n fr hh H
  rw [hI] at H
  obtain ⟨k, hk, rfl, hup, kp, rfl⟩ := H
  apply padlockref09_GoodR_loop53
  (repeat simp -dsimp -implicitDefEqProofs (disch := omega) only [↓rP, rQ, rO, rL, ↓reduceIte, Nat.reduceEqDiff, Nat.reduceAdd, Nat.reduceLeDiff, pBuild, fillA, ↓tyr])
  refine Split_lt (fun hkl => ?_) (fun hkl => ?_)
  · obtain ⟨b, hx⟩ : ∃ b, (slL c.Threads)[k]? = some b := ⟨_, List.getElem?_eq_getElem (by omega)⟩
    have kp1 := kp.go (Keeps.one hh (.row 51 b.cells))
    have hsl : ∀ l ∈ slL b.Slots, localB c l = true := by
      have := List.all_eq_true.1 hbd b (List.mem_of_getElem? hx)
      unfold bodyB at this
      rw [Bool.and_eq_true] at this
      exact List.all_eq_true.1 this.2
    (repeat simp -dsimp -implicitDefEqProofs (disch := omega) only [↓rP, rQ, rO, rL, ↓reduceIte, Nat.reduceEqDiff, Nat.reduceAdd, Nat.reduceLeDiff, pBuild, fillA, ↓tyr, pIndexAddr_slAV hx])
    refine g_instrs c hc sm k b hx hsl _ _ _ _ _ (fun hg => ?_) (fun hg => ?_)
    · (repeat simp -dsimp -implicitDefEqProofs (disch := omega) only [↓rP, rQ, rO, rL, ↓reduceIte, Nat.reduceEqDiff, Nat.reduceAdd, Nat.reduceLeDiff, pBuild, fillA, ↓tyr])
      exact hret _ (allK_false hx hg) kp1
    · (repeat simp -dsimp -implicitDefEqProofs (disch := omega) only [↓rP, rQ, rO, rL, ↓reduceIte, Nat.reduceEqDiff, Nat.reduceAdd, Nat.reduceLeDiff, pBuild, fillA, ↓tyr, wkS k (by omega)])
      rw [loopPost_normal, hI]
      exact ⟨_, by omega, k + 1, by omega, rfl, upTo_succ hup hx hg, kp1, rfl⟩
  · have hke : k = (slL c.Threads).length := by omega
    subst hke
    (repeat simp -dsimp -implicitDefEqProofs (disch := omega) only [↓rP, rQ, rO, rL, ↓reduceIte, Nat.reduceEqDiff, Nat.reduceAdd, Nat.reduceLeDiff, pBuild, fillA, ↓tyr])
    exact hex hh (upTo_all hup) kp
end Go.Proofs.YtopfjochppdnfaaDoor
end

section
/- The document's Good: sections and sites. -/
set_option maxRecDepth 100000
set_option maxHeartbeats 1000000
namespace Go.Proofs.YtopfjochppdnfaaDoor
open Go.Abs
def sepP (i : Nat) (s : Api_Section) (j : Nat) (o : Api_Section) : Bool := decide (j = i) || !meetB s o
def secR (c : Cd) (i : Nat) (s : Api_Section) : Bool := endsB c i s && allK (sepP i s) (slL c.Sections)
theorem g_sep (c : Cd) (sm : Small c) (i : Nat) (hi : i ≤ 1000) (s : Api_Section) (a134 a135 a136 : AV) (h0 : AHeap) (id : Nat) (hid : id < h0.next) (ho : h0.objs id = some (.row 71 s.cells)) (Q : AExit → Fr → AHeap → Prop)
    (hret : ∀ h2, allK (sepP i s) (slL c.Sections) = false → Keeps h0 h2 (fun _ => False) → Q .ret (frOf [(2, .bool false)]) h2)
    (hex : ∀ h2, allK (sepP i s) (slL c.Sections) = true → Keeps h0 h2 (fun _ => False) → Q (.exit 10) (frOf [(1, .iptr c.cells), (134, a134), (135, a135), (136, a136)]) h2) :
    WP Tryd.prog 324 (.loop c_padlockref09_GoodR_37) (frOf [(1, .iptr c.cells), (12, .int .i64 i), (13, .ptr id 0), (134, a134), (135, a135), (136, a136), (214, slAV 3 Api_Section.cells c.Sections), (215, .int .i64 (slL c.Sections).length), (216, .int .i64 0)]) h0 Q := by
  have hsec := sm.secs
  obtain ⟨I, hI⟩ : ∃ I : Nat → Fr → AHeap → Prop, I = (fun n fr hh => ∃ k : Nat, k ≤ (slL c.Sections).length ∧ n = (slL c.Sections).length - k ∧ upTo (sepP i s) (slL c.Sections) k ∧ Keeps h0 hh (fun _ => False) ∧ fr = frOf [(1, .iptr c.cells), (12, .int .i64 i), (13, .ptr id 0), (134, a134), (135, a135), (136, a136), (214, slAV 3 Api_Section.cells c.Sections), (215, .int .i64 (slL c.Sections).length), (216, .int .i64 k)]) := ⟨_, rfl⟩
  refine WP_loop mixed_ (by kernel_rfl) I (slL c.Sections).length (by rw [hI]; exact ⟨0, by omega, by omega, upTo_zero _ _, .refl _ _, rfl⟩) ?_
  intro n fr hh H
  rw [hI] at H
  obtain ⟨k, hk, rfl, hup, kp, rfl⟩ := H
  apply padlockref09_GoodR_loop37
  (repeat (first | simp -dsimp -implicitDefEqProofs (disch := omega) only [↓rP, rQ, rO, rL, ↓reduceIte, Nat.reduceEqDiff, Nat.reduceAdd, Nat.reduceLeDiff, pBuild, fillA, ↓tyr] | refine Cut.go ?_))
  refine Split_lt (fun hkl => ?_) (fun hkl => ?_)
  · obtain ⟨o, hx⟩ : ∃ o, (slL c.Sections)[k]? = some o := ⟨_, List.getElem?_eq_getElem (by omega)⟩
    have kp1 := kp.go (Keeps.one hh (.row 71 o.cells))
    have ho2 : (hh.push (.row 71 o.cells)).objs id = some (.row 71 s.cells) := by
      have := kp.next
      simp only [AHeap.push_objs]
      rw [if_neg (by omega), kp.objs id hid (by simp), ho]
    have ld : ∀ (off : Nat) (q : Option Nat) (K : AV → Prop), pLoad q (.ptr id off) (hh.push (.row 71 o.cells)) K = pCells q s.cells off K := fun off q K => pLoad_ptr ho2 q K
    have no : sepP i s k o = false → Q .ret (frOf [(2, .bool false)]) (hh.push (.row 71 o.cells)) := fun hp => hret _ (allK_false hx hp) kp1
    have on : sepP i s k o = true → loopPost I ((slL c.Sections).length - k) Q .normal (frOf [(1, .iptr c.cells), (12, .int .i64 i), (13, .ptr id 0), (134, a134), (135, a135), (136, a136), (214, slAV 3 Api_Section.cells c.Sections), (215, .int .i64 (slL c.Sections).length), (216, .int .i64 (k + 1 : Nat))]) (hh.push (.row 71 o.cells)) := fun hp => by
      rw [loopPost_normal, hI]
      exact ⟨_, by omega, k + 1, by omega, rfl, upTo_succ hup hx hp, kp1, rfl⟩
    have wk := wkS k (by omega)
    have end1 : sepP i s k o = true ∨ sepP i s k o = false := by cases sepP i s k o <;> simp
    have isno : k ≠ i → o.Thread = s.Thread → s.From ≤ o.To → o.From ≤ s.To → sepP i s k o = false := fun a1 a2 a3 a4 => by simp [sepP, meetB, a1, a2, a3, a4]
    have ison : (k = i ∨ o.Thread ≠ s.Thread ∨ o.To < s.From ∨ s.To < o.From) → sepP i s k o = true := fun h => by
      simp only [sepP, meetB, Bool.or_eq_true, decide_eq_true_eq, Bool.not_eq_true', Bool.and_eq_false_iff, decide_eq_false_iff_not]
      omega
    repeat' (first | (simp -dsimp -implicitDefEqProofs (disch := omega) only [↓rP, rQ, rO, rL, ↓reduceIte, Nat.reduceEqDiff, Nat.reduceAdd, Nat.reduceLeDiff, pBuild, fillA, ↓tyr, pIndexAddr_slAV hx, ↓ld, wk]) | with_reducible refine Cut.go ?_ | with_reducible refine Split_eq (fun _ => ?_) (fun _ => ?_) | with_reducible refine Split_ne (fun _ => ?_) (fun _ => ?_) | with_reducible refine Split_lt (fun _ => ?_) (fun _ => ?_) | with_reducible refine Split_le (fun _ => ?_) (fun _ => ?_) | with_reducible refine Split_not ?_)
    all_goals first
      | exact on (ison (by omega))
      | exact no (isno (by omega) (by omega) (by omega) (by omega))
  · have hke : k = (slL c.Sections).length := by omega
    subst hke
    (repeat (first | simp -dsimp -implicitDefEqProofs (disch := omega) only [↓rP, rQ, rO, rL, ↓reduceIte, Nat.reduceEqDiff, Nat.reduceAdd, Nat.reduceLeDiff, pBuild, fillA, ↓tyr] | refine Cut.go ?_))
    exact hex hh (upTo_all hup) kp
theorem g_sections (c : Cd) (sm : Small c) (h0 : AHeap) (Q : AExit → Fr → AHeap → Prop)
    (hret : ∀ h2, allK (secR c) (slL c.Sections) = false → Keeps h0 h2 (fun _ => False) → Q .ret (frOf [(2, .bool false)]) h2)
    (hex : ∀ h2, allK (secR c) (slL c.Sections) = true → Keeps h0 h2 (fun _ => False) → Q (.exit 8) (frOf [(1, .iptr c.cells)]) h2) :
    WP Tryd.prog 324 (.loop c_padlockref09_GoodR_29) (frOf [(1, .iptr c.cells), (134, slAV 3 Api_Section.cells c.Sections), (135, .int .i64 (slL c.Sections).length), (136, .int .i64 0)]) h0 Q := by
  have hsec := sm.secs
  obtain ⟨I, hI⟩ : ∃ I : Nat → Fr → AHeap → Prop, I = (fun n fr hh => ∃ k : Nat, k ≤ (slL c.Sections).length ∧ n = (slL c.Sections).length - k ∧ upTo (secR c) (slL c.Sections) k ∧ Keeps h0 hh (fun _ => False) ∧ fr = frOf [(1, .iptr c.cells), (134, slAV 3 Api_Section.cells c.Sections), (135, .int .i64 (slL c.Sections).length), (136, .int .i64 k)]) := ⟨_, rfl⟩
  refine WP_loop mixed_ (by kernel_rfl) I (slL c.Sections).length (by rw [hI]; exact ⟨0, by omega, by omega, upTo_zero _ _, .refl _ _, rfl⟩) ?_
  intro n fr hh H
  rw [hI] at H
  obtain ⟨k, hk, rfl, hup, kp, rfl⟩ := H
  apply padlockref09_GoodR_loop29
  (repeat (first | simp -dsimp -implicitDefEqProofs (disch := omega) only [↓rP, rQ, rO, rL, ↓reduceIte, Nat.reduceEqDiff, Nat.reduceAdd, Nat.reduceLeDiff, pBuild, fillA, ↓tyr] | refine Cut.go ?_))
  refine Split_lt (fun hkl => ?_) (fun hkl => ?_)
  · obtain ⟨s, hx⟩ : ∃ s, (slL c.Sections)[k]? = some s := ⟨_, List.getElem?_eq_getElem (by omega)⟩
    have kp1 := kp.go (Keeps.one hh (.row 71 s.cells))
    have no : endsB c k s = false → Q .ret (frOf [(2, .bool false)]) (hh.push (.row 71 s.cells)) := fun hp => hret _ (allK_false hx (by unfold secR; rw [hp]; rfl)) kp1
    (repeat (first | simp -dsimp -implicitDefEqProofs (disch := omega) only [↓rP, rQ, rO, rL, ↓reduceIte, Nat.reduceEqDiff, Nat.reduceAdd, Nat.reduceLeDiff, pBuild, fillA, ↓tyr, pIndexAddr_slAV hx] | refine Cut.go ?_))
    refine CallsA.go (ref_in_does _ _ _) ?_
    cases hb : getI (slL c.Threads) s.Thread with
    | none =>
      have hbt := getI_none.2 hb
      (repeat (first | simp -dsimp -implicitDefEqProofs (disch := omega) only [↓rP, rQ, rO, rL, ↓reduceIte, Nat.reduceEqDiff, Nat.reduceAdd, Nat.reduceLeDiff, pBuild, fillA, ↓tyr, hbt, Bool.not_false] | refine Cut.go ?_))
      exact no (by simp [endsB, codeAt, hb])
    | some b =>
      have hbt := getI_some.2 ⟨b, hb⟩
      (repeat (first | simp -dsimp -implicitDefEqProofs (disch := omega) only [↓rP, rQ, rO, rL, ↓reduceIte, Nat.reduceEqDiff, Nat.reduceAdd, Nat.reduceLeDiff, pBuild, fillA, ↓tyr, hbt, Bool.not_true] | refine Cut.go ?_))
      refine CallsA.go (ref_in_does _ _ _) ?_
      rcases h1 : btw s.From s.To with _ | _
      · (repeat (first | simp -dsimp -implicitDefEqProofs (disch := omega) only [↓rP, rQ, rO, rL, ↓reduceIte, Nat.reduceEqDiff, Nat.reduceAdd, Nat.reduceLeDiff, pBuild, fillA, ↓tyr, hbt, h1, Bool.not_false] | refine Cut.go ?_))
        exact no (by unfold endsB; unfold btw at h1; rw [h1]; rfl)
      have h1' : 0 ≤ s.From ∧ s.From < s.To := by simpa [btw] using h1
      (repeat (first | simp -dsimp -implicitDefEqProofs (disch := omega) only [↓rP, rQ, rO, rL, ↓reduceIte, Nat.reduceEqDiff, Nat.reduceAdd, Nat.reduceLeDiff, pBuild, fillA, ↓tyr, hbt, h1, Bool.not_true, ixI hb] | refine Cut.go ?_))
      refine CallsA.go (ref_in_does _ _ _) ?_
      rcases h2 : btw s.To (slL b.Code).length with _ | _
      · (repeat (first | simp -dsimp -implicitDefEqProofs (disch := omega) only [↓rP, rQ, rO, rL, ↓reduceIte, Nat.reduceEqDiff, Nat.reduceAdd, Nat.reduceLeDiff, pBuild, fillA, ↓tyr, hbt, h1, h2, Bool.not_false] | refine Cut.go ?_))
        exact no (by simp [endsB, codeAt, hb, getI_no h2])
      have h2' : 0 ≤ s.To ∧ s.To < (slL b.Code).length := by simpa [btw] using h2
      obtain ⟨x, hxx⟩ : ∃ x, getI (slL b.Code) s.From = some x := getI_some.1 (by unfold btw; simp; omega)
      obtain ⟨y, hyy⟩ : ∃ y, getI (slL b.Code) s.To = some y := getI_some.1 h2
      (repeat (first | simp -dsimp -implicitDefEqProofs (disch := omega) only [↓rP, rQ, rO, rL, ↓reduceIte, Nat.reduceEqDiff, Nat.reduceAdd, Nat.reduceLeDiff, pBuild, fillA, ↓tyr, hbt, h1, h2, Bool.not_true, ixI hb, ixI hxx, ixI hyy] | refine Cut.go ?_))
      refine Split_ne (fun h4 => ?_) (fun h4 => ?_)
      · (repeat (first | simp -dsimp -implicitDefEqProofs (disch := omega) only [↓rP, rQ, rO, rL, ↓reduceIte, Nat.reduceEqDiff, Nat.reduceAdd, Nat.reduceLeDiff, pBuild, fillA, ↓tyr] | refine Cut.go ?_))
        exact no (by simp [endsB, codeAt, hb, hxx, h4])
      (repeat (first | simp -dsimp -implicitDefEqProofs (disch := omega) only [↓rP, rQ, rO, rL, ↓reduceIte, Nat.reduceEqDiff, Nat.reduceAdd, Nat.reduceLeDiff, pBuild, fillA, ↓tyr, ixI hb, ixI hxx, ixI hyy] | refine Cut.go ?_))
      refine Split_ne (fun h5 => ?_) (fun h5 => ?_)
      · (repeat (first | simp -dsimp -implicitDefEqProofs (disch := omega) only [↓rP, rQ, rO, rL, ↓reduceIte, Nat.reduceEqDiff, Nat.reduceAdd, Nat.reduceLeDiff, pBuild, fillA, ↓tyr] | refine Cut.go ?_))
        exact no (by simp [endsB, codeAt, hb, hxx, h5])
      (repeat (first | simp -dsimp -implicitDefEqProofs (disch := omega) only [↓rP, rQ, rO, rL, ↓reduceIte, Nat.reduceEqDiff, Nat.reduceAdd, Nat.reduceLeDiff, pBuild, fillA, ↓tyr, ixI hb, ixI hxx, ixI hyy] | refine Cut.go ?_))
      refine Split_ne (fun h6 => ?_) (fun h6 => ?_)
      · (repeat (first | simp -dsimp -implicitDefEqProofs (disch := omega) only [↓rP, rQ, rO, rL, ↓reduceIte, Nat.reduceEqDiff, Nat.reduceAdd, Nat.reduceLeDiff, pBuild, fillA, ↓tyr] | refine Cut.go ?_))
        exact no (by simp [endsB, codeAt, hb, hyy, h6])
      (repeat (first | simp -dsimp -implicitDefEqProofs (disch := omega) only [↓rP, rQ, rO, rL, ↓reduceIte, Nat.reduceEqDiff, Nat.reduceAdd, Nat.reduceLeDiff, pBuild, fillA, ↓tyr, ixI hb, ixI hxx, ixI hyy] | refine Cut.go ?_))
      refine Split_ne (fun h7 => ?_) (fun h7 => ?_)
      · (repeat (first | simp -dsimp -implicitDefEqProofs (disch := omega) only [↓rP, rQ, rO, rL, ↓reduceIte, Nat.reduceEqDiff, Nat.reduceAdd, Nat.reduceLeDiff, pBuild, fillA, ↓tyr] | refine Cut.go ?_))
        exact no (by simp [endsB, codeAt, hb, hyy, h7])
      have he : endsB c k s = true := by
        simp only [endsB, codeAt, hb, hxx, hyy, h4, h5, h6, h7, decide_true, Bool.and_true, Bool.and_eq_true, decide_eq_true_eq]
        omega
      (repeat (first | simp -dsimp -implicitDefEqProofs (disch := omega) only [↓rP, rQ, rO, rL, ↓reduceIte, Nat.reduceEqDiff, Nat.reduceAdd, Nat.reduceLeDiff, pBuild, fillA, ↓tyr] | refine Cut.go ?_))
      refine g_sep c sm k (by omega) s _ _ _ _ hh.next (by simp) (by simp) _ (fun h3 hg k3 => ?_) (fun h3 hg k3 => ?_)
      · (repeat (first | simp -dsimp -implicitDefEqProofs (disch := omega) only [↓rP, rQ, rO, rL, ↓reduceIte, Nat.reduceEqDiff, Nat.reduceAdd, Nat.reduceLeDiff, pBuild, fillA, ↓tyr] | refine Cut.go ?_))
        exact hret _ (allK_false hx (by unfold secR; rw [hg, Bool.and_false])) (kp1.go k3)
      · (repeat (first | simp -dsimp -implicitDefEqProofs (disch := omega) only [↓rP, rQ, rO, rL, ↓reduceIte, Nat.reduceEqDiff, Nat.reduceAdd, Nat.reduceLeDiff, pBuild, fillA, ↓tyr, wkS k (by omega)] | refine Cut.go ?_))
        rw [loopPost_normal, hI]
        exact ⟨_, by omega, k + 1, by omega, rfl, upTo_succ hup hx (by unfold secR; rw [hg, he]; rfl), kp1.go k3, rfl⟩
  · have hke : k = (slL c.Sections).length := by omega
    subst hke
    (repeat (first | simp -dsimp -implicitDefEqProofs (disch := omega) only [↓rP, rQ, rO, rL, ↓reduceIte, Nat.reduceEqDiff, Nat.reduceAdd, Nat.reduceLeDiff, pBuild, fillA, ↓tyr] | refine Cut.go ?_))
    exact hex hh (upTo_all hup) kp
theorem g_sites (c : Cd) (sm : Small c) (h0 : AHeap) (Q : AExit → Fr → AHeap → Prop)
    (hret : ∀ h2, allK (siteOk c) (slL c.Sites) = false → Keeps h0 h2 (fun _ => False) → Q .ret (frOf [(2, .bool false)]) h2)
    (hex : ∀ h2, allK (siteOk c) (slL c.Sites) = true → Keeps h0 h2 (fun _ => False) → Q (.exit 12) (frOf [(1, .iptr c.cells)]) h2) :
    WP Tryd.prog 324 (.loop c_padlockref09_GoodR_44) (frOf [(1, .iptr c.cells), (249, slAV 3 Api_Site.cells c.Sites), (250, .int .i64 (slL c.Sites).length), (251, .int .i64 0)]) h0 Q := by
  have hsi := sm.sites
  obtain ⟨I, hI⟩ : ∃ I : Nat → Fr → AHeap → Prop, I = (fun n fr hh => ∃ k : Nat, k ≤ (slL c.Sites).length ∧ n = (slL c.Sites).length - k ∧ upTo (siteOk c) (slL c.Sites) k ∧ Keeps h0 hh (fun _ => False) ∧ fr = frOf [(1, .iptr c.cells), (249, slAV 3 Api_Site.cells c.Sites), (250, .int .i64 (slL c.Sites).length), (251, .int .i64 k)]) := ⟨_, rfl⟩
  refine WP_loop mixed_ (by kernel_rfl) I (slL c.Sites).length (by rw [hI]; exact ⟨0, by omega, by omega, upTo_zero _ _, .refl _ _, rfl⟩) ?_
  intro n fr hh H
  rw [hI] at H
  obtain ⟨k, hk, rfl, hup, kp, rfl⟩ := H
  apply padlockref09_GoodR_loop44
  (repeat (first | simp -dsimp -implicitDefEqProofs (disch := omega) only [↓rP, rQ, rO, rL, ↓reduceIte, Nat.reduceEqDiff, Nat.reduceAdd, Nat.reduceLeDiff, pBuild, fillA, ↓tyr] | refine Cut.go ?_))
  refine Split_lt (fun hkl => ?_) (fun hkl => ?_)
  · obtain ⟨s, hx⟩ : ∃ s, (slL c.Sites)[k]? = some s := ⟨_, List.getElem?_eq_getElem (by omega)⟩
    have kp1 := kp.go (Keeps.one hh (.row 54 s.cells))
    have no : siteOk c k s = false → Q .ret (frOf [(2, .bool false)]) (hh.push (.row 54 s.cells)) := fun hp => hret _ (allK_false hx hp) kp1
    (repeat (first | simp -dsimp -implicitDefEqProofs (disch := omega) only [↓rP, rQ, rO, rL, ↓reduceIte, Nat.reduceEqDiff, Nat.reduceAdd, Nat.reduceLeDiff, pBuild, fillA, ↓tyr, pIndexAddr_slAV hx] | refine Cut.go ?_))
    refine CallsA.go (ref_in_does _ _ _) ?_
    cases hb : getI (slL c.Threads) s.Thread with
    | none =>
      have hbt := getI_none.2 hb
      (repeat (first | simp -dsimp -implicitDefEqProofs (disch := omega) only [↓rP, rQ, rO, rL, ↓reduceIte, Nat.reduceEqDiff, Nat.reduceAdd, Nat.reduceLeDiff, pBuild, fillA, ↓tyr, hbt, Bool.not_false] | refine Cut.go ?_))
      exact no (by simp [siteOk, codeAt, hb])
    | some b =>
      have hbt := getI_some.2 ⟨b, hb⟩
      (repeat (first | simp -dsimp -implicitDefEqProofs (disch := omega) only [↓rP, rQ, rO, rL, ↓reduceIte, Nat.reduceEqDiff, Nat.reduceAdd, Nat.reduceLeDiff, pBuild, fillA, ↓tyr, hbt, ixI hb, Bool.not_true] | refine Cut.go ?_))
      refine CallsA.go (ref_in_does _ _ _) ?_
      cases hx2 : getI (slL b.Code) s.At with
      | none =>
        have hbt2 := getI_none.2 hx2
        (repeat (first | simp -dsimp -implicitDefEqProofs (disch := omega) only [↓rP, rQ, rO, rL, ↓reduceIte, Nat.reduceEqDiff, Nat.reduceAdd, Nat.reduceLeDiff, pBuild, fillA, ↓tyr, hbt, hbt2, Bool.not_false] | refine Cut.go ?_))
        exact no (by simp [siteOk, codeAt, hb, hx2])
      | some x =>
        have hbt2 := getI_some.2 ⟨x, hx2⟩
        have kp2 := kp1.go (Keeps.one _ (.row 58 x.cells))
        have ho2 : ∀ o, ((hh.push (.row 54 s.cells)).push o).objs hh.next = some (.row 54 s.cells) := fun o => by simp
        have ld : ∀ (o : AObj) (off : Nat) (q : Option Nat) (K : AV → Prop), pLoad q (.ptr hh.next off) ((hh.push (.row 54 s.cells)).push o) K = pCells q s.cells off K := fun o off q K => pLoad_ptr (ho2 o) q K
        have no2 : siteOk c k s = false → Q .ret (frOf [(2, .bool false)]) ((hh.push (.row 54 s.cells)).push (.row 58 x.cells)) := fun hp => hret _ (allK_false hx hp) kp2
        have on : siteOk c k s = true → loopPost I ((slL c.Sites).length - k) Q .normal (frOf [(1, .iptr c.cells), (249, slAV 3 Api_Site.cells c.Sites), (250, .int .i64 (slL c.Sites).length), (251, .int .i64 (k + 1 : Nat))]) ((hh.push (.row 54 s.cells)).push (.row 58 x.cells)) := fun hm => by
          rw [loopPost_normal, hI]
          exact ⟨_, by omega, k + 1, by omega, rfl, upTo_succ hup hx hm, kp2, rfl⟩
        repeat' (first | (simp -dsimp -implicitDefEqProofs (disch := omega) only [↓rP, rQ, rO, rL, ↓reduceIte, Nat.reduceEqDiff, Nat.reduceAdd, Nat.reduceLeDiff, pBuild, fillA, ↓tyr, hbt, hbt2, ixI hb, ixI hx2, ↓ld, wkS k (by omega), Bool.not_true]) | refine Cut.go ?_ | refine Split_eq (fun _ => ?_) (fun _ => ?_) | refine Split_ne (fun _ => ?_) (fun _ => ?_) | refine Split_lt (fun _ => ?_) (fun _ => ?_) | refine Split_le (fun _ => ?_) (fun _ => ?_) | refine Split.intro (fun _ => ?_) (fun _ => ?_))
        all_goals first
          | exact on (by simp [siteOk, codeAt, hb, hx2, *]; try omega)
          | exact no2 (by simp [siteOk, codeAt, hb, hx2, *]; try omega)
  · have hke : k = (slL c.Sites).length := by omega
    subst hke
    (repeat (first | simp -dsimp -implicitDefEqProofs (disch := omega) only [↓rP, rQ, rO, rL, ↓reduceIte, Nat.reduceEqDiff, Nat.reduceAdd, Nat.reduceLeDiff, pBuild, fillA, ↓tyr] | refine Cut.go ?_))
    exact hex hh (upTo_all hup) kp
end Go.Proofs.YtopfjochppdnfaaDoor
end

section
/- Which codes can be: the program, of small codes. -/
set_option maxRecDepth 100000
set_option maxHeartbeats 1000000
namespace Go.Proofs.YtopfjochppdnfaaDoor
open Go.Abs
theorem code_Good_p (c : Cd) (hc : c.ok) (hs : (slL c.Sections).length ≤ 1000000) (hsi : (slL c.Sites).length ≤ 1000000) (hg : (slL c.Globals).length ≤ 1000000) (hr : ∀ r ∈ slL c.Records, (slL r).length ≤ 1000000) (h : AHeap) : CallsA Tryd.prog 34 [.agg c.cells] h (fun v h2 => v = .bool (okC c) ∧ h2 = h) := CallsA.forget (by simp [idsIn]) (code_Good_does c hc hs hsi hg hr h)
theorem code_Good_s (c : Cd) (hc : c.ok) (s : Small c) (h : AHeap) : CallsA Tryd.prog 34 [.agg c.cells] h (fun v h2 => v = .bool (okC c) ∧ h2 = h) := code_Good_p c hc (by have := s.secs; omega) (by have := s.sites; omega) (by have := s.globs; omega) (fun r hr => by have := s.fields r hr; omega) h
end Go.Proofs.YtopfjochppdnfaaDoor
end

section
/- Which codes can be: the document and the program say the same. -/
set_option maxRecDepth 100000
set_option maxHeartbeats 1000000
namespace Go.Proofs.YtopfjochppdnfaaDoor
open Go.Abs
theorem okC_split {c : Cd} (h : okC c = true) : (slL c.Records).length ≤ 6 ∧ (slL c.Threads).length ≤ 4 ∧ cellsB c (slL c.Globals) 8 = true ∧ sectionsB c = true ∧ sitesB c = true ∧ (slL c.Records).all (fun r => cellsB c (slL r) 6) = true ∧ threadsB c = true := by
  unfold okC at h
  simp only [Bool.and_eq_true, decide_eq_true_eq] at h
  obtain ⟨⟨⟨⟨⟨⟨h1, h2⟩, h3⟩, h4⟩, h5⟩, h6⟩, h7⟩ := h
  exact ⟨h1, h2, h3, h4, h5, h6, h7⟩
theorem meet_comm (s o : Api_Section) : meetB s o = meetB o s := by
  unfold meetB
  rw [Bool.eq_iff_iff]
  simp only [Bool.and_eq_true, decide_eq_true_eq]
  constructor <;> (rintro ⟨⟨a, b⟩, d⟩; exact ⟨⟨a.symm, d⟩, b⟩)
theorem secs_iff (c : Cd) : allK (secB c) (slL c.Sections) = true ↔ allK (secR c) (slL c.Sections) = true := by
  simp only [allK_iff]
  constructor
  · intro h k s hs
    have hk := h k s hs
    unfold secB at hk
    rw [Bool.and_eq_true] at hk
    unfold secR
    rw [hk.1, Bool.true_and, allK_iff]
    intro j o hj
    unfold sepP
    by_cases e : j = k
    · simp [e]
    · have : meetB s o = false := by
        rcases Nat.lt_or_gt_of_ne e with hlt | hgt
        · have := List.all_eq_true.1 hk.2 o (List.mem_of_getElem? (i := j) (by rw [List.getElem?_take_of_lt hlt, hj]))
          simpa using this
        · have hj2 := h j o hj
          unfold secB at hj2
          rw [Bool.and_eq_true] at hj2
          have := List.all_eq_true.1 hj2.2 s (List.mem_of_getElem? (i := k) (by rw [List.getElem?_take_of_lt hgt, hs]))
          rw [meet_comm]
          simpa using this
      simp [this]
  · intro h k s hs
    have hk := h k s hs
    unfold secR at hk
    rw [Bool.and_eq_true, allK_iff] at hk
    unfold secB
    rw [hk.1, Bool.true_and, List.all_eq_true]
    intro o ho
    obtain ⟨j, hj⟩ := List.getElem?_of_mem ho
    have hjl := (List.getElem?_eq_some_iff.1 hj).1
    rw [List.length_take] at hjl
    have hjk : j < k := by omega
    rw [List.getElem?_take_of_lt hjk] at hj
    have := hk.2 j o hj
    unfold sepP at this
    simpa [show j ≠ k by omega] using this
theorem rows_iff (c : Cd) (hg : (slL c.Globals).length ≤ 8) : allK (rowP c) (c.Globals :: slL c.Records) = true ↔ cellsB c (slL c.Globals) 8 = true ∧ (slL c.Records).all (fun r => cellsB c (slL r) 6) = true := by
  have e8 : cellsB c (slL c.Globals) 8 = cellP c c.Globals := by unfold cellsB cellP; rw [decide_eq_true (by omega), Bool.true_and]
  rw [e8, allK_iff, List.all_eq_true]
  have e6 : ∀ (i : Nat) (r : Option (List Lo)), rowP c (i + 1) r = cellsB c (slL r) 6 := fun i r => by
    unfold rowP cellsB cellP
    by_cases h : (slL r).length ≤ 6
    · rw [decide_eq_false (show ¬ 6 < (slL r).length by omega), decide_eq_true (show ((slL r).length : Int) ≤ 6 by omega)]; simp
    · rw [decide_eq_true (show 6 < (slL r).length by omega), decide_eq_false (show ¬ ((slL r).length : Int) ≤ 6 by omega)]; simp
  constructor
  · intro h
    refine ⟨by have := h 0 _ rfl; simpa [rowP] using this, fun r hr => ?_⟩
    obtain ⟨i, hi⟩ := List.getElem?_of_mem hr
    rw [← e6 i r]
    exact h (i + 1) r (by simpa using hi)
  · rintro ⟨h1, h2⟩ k o hk
    cases k with
    | zero => simp at hk; subst hk; simpa [rowP] using h1
    | succ k => rw [e6]; exact h2 o (List.mem_of_getElem? (by simpa using hk))
theorem threads_iff (c : Cd) : threadsB c = true ↔ (slL c.Threads).all (bodyB c) = true ∧ allK (fun i b => allK (fun k x => instrR c i b x k) (slL b.Code)) (slL c.Threads) = true := by
  have halt : ∀ (i : Nat) (b : Bd) (x : In) (k : Nat), instrB c i b x k = true → x.Op = 17 → (k : Int) = (slL b.Code).length - 1 := fun i b x k hi ho => by
    unfold instrB at hi
    rw [if_neg (by omega), if_neg (by omega), if_neg (by omega), if_neg (by omega), if_neg (by omega), if_neg (by omega), if_neg (by omega), if_neg (by omega)] at hi
    simp only [Bool.and_eq_true, decide_eq_true_eq] at hi
    exact hi.2
  unfold threadsB
  constructor
  · intro h
    rw [allK_iff] at h
    have part : ∀ (i : Nat) (b : Bd), (slL c.Threads)[i]? = some b → bodyB c b = true ∧ lastB b = true ∧ instrsB c i b = true := fun i b hb => by
      have := h i b hb
      unfold threadB at this
      simpa [and_assoc] using this
    refine ⟨List.all_eq_true.2 fun b hb => ?_, allK_iff.2 fun i b hb => allK_iff.2 fun k x hx => ?_⟩
    · obtain ⟨i, hi⟩ := List.getElem?_of_mem hb
      exact (part i b hi).1
    · obtain ⟨-, h2, h3⟩ := part i b hb
      have hi := allK_iff.1 h3 k x hx
      unfold instrR
      rw [hi, Bool.true_and]
      by_cases ho : x.Op = 17
      · rw [decide_eq_true ho, decide_eq_true (halt i b x k hi ho)]; rfl
      · have : ¬ ((k : Int) = (slL b.Code).length - 1) := fun e => by
          unfold lastB at h2
          rw [← e, getI_natCast, hx] at h2
          exact ho (by simpa using h2)
        rw [decide_eq_false ho, decide_eq_false this]; rfl
  · rintro ⟨h1, h2⟩
    rw [allK_iff] at h2 ⊢
    intro i b hb
    have hbd := List.all_eq_true.1 h1 b (List.mem_of_getElem? hb)
    have hin := h2 i b hb
    rw [allK_iff] at hin
    have hpos : 1 ≤ (slL b.Code).length := by
      unfold bodyB at hbd
      simp only [Bool.and_eq_true, decide_eq_true_eq] at hbd
      exact hbd.1.1.1.1.2
    have e1 : instrsB c i b = true := allK_iff.2 fun k x hx => by
      have := hin k x hx
      unfold instrR at this
      rw [Bool.and_eq_true] at this
      exact this.1
    have e2 : lastB b = true := by
      obtain ⟨x, hx⟩ : ∃ x, (slL b.Code)[(slL b.Code).length - 1]? = some x := ⟨_, List.getElem?_eq_getElem (by omega)⟩
      have e : ((slL b.Code).length : Int) - 1 = (((slL b.Code).length - 1 : Nat) : Int) := by omega
      have := hin _ x hx
      unfold instrR at this
      rw [Bool.and_eq_true, ← e] at this
      unfold lastB
      rw [e, getI_natCast, hx]
      simpa using this.2
    unfold threadB
    rw [hbd, e2, e1]; rfl
theorem okC_iff (c : Cd) : okC c = true ↔ (slL c.Records).length ≤ 6 ∧ (slL c.Globals).length ≤ 8 ∧ (slL c.Threads).length ≤ 4 ∧ (slL c.Sites).length ≤ 32 ∧ (slL c.Sections).length ≤ 32 ∧ allK (rowP c) (c.Globals :: slL c.Records) = true ∧ (slL c.Threads).all (bodyB c) = true ∧ allK (secR c) (slL c.Sections) = true ∧ allK (siteOk c) (slL c.Sites) = true ∧ allK (fun i b => allK (fun k x => instrR c i b x k) (slL b.Code)) (slL c.Threads) = true := by
  constructor
  · intro h
    obtain ⟨h1, h2, h3, h4, h5, h6, h7⟩ := okC_split h
    have hg : (slL c.Globals).length ≤ 8 := by
      unfold cellsB at h3; simp only [Bool.and_eq_true, decide_eq_true_eq] at h3; omega
    unfold sectionsB at h4
    unfold sitesB at h5
    simp only [Bool.and_eq_true, decide_eq_true_eq] at h4 h5
    have ht := (threads_iff c).1 h7
    exact ⟨h1, hg, h2, h5.1, h4.1, (rows_iff c hg).2 ⟨h3, h6⟩, ht.1, (secs_iff c).1 h4.2, h5.2, ht.2⟩
  · rintro ⟨h1, hg, h2, h3, h4, h5, h6, h7, h8, h9⟩
    obtain ⟨r1, r2⟩ := (rows_iff c hg).1 h5
    unfold okC sectionsB sitesB
    rw [decide_eq_true h1, decide_eq_true h2, r1, r2, decide_eq_true h4, decide_eq_true h3, (secs_iff c).2 h7, h8, (threads_iff c).2 ⟨h6, h9⟩]
    rfl
theorem keeps_kill {h g : AHeap} (k : Keeps h g (fun _ => False)) {id : Nat} (hid : h.next ≤ id) : Keeps h (g.kill id) (fun _ => False) :=
  ⟨k.next, fun i hi hs => by simp only [AHeap.kill_objs]; rw [if_neg (by omega)]; exact k.objs i hi hs⟩
theorem ref_Good_k (c : Cd) (hc : c.ok) (sm : Small c) (h : AHeap) : CallsA Tryd.prog 24 [.agg c.cells] h (fun v h2 => v = .bool (okC c) ∧ Keeps h h2 (fun _ => False)) := by
  have no : ∀ {p : Prop}, (okC c = true → p) → ¬ p → okC c = false := fun hp hn => by
    rw [Bool.eq_false_iff]; exact fun e => hn (hp e)
  have hrec := sm.recs
  have hgl := sm.globs
  apply padlockref09_GoodR_wp
  (repeat (first | simp -dsimp -implicitDefEqProofs (disch := omega) only [↓rP, rQ, rO, rL, ↓reduceIte, Nat.reduceEqDiff, Nat.reduceAdd, Nat.reduceLeDiff, pBuild, fillA, ↓tyr] | refine Cut.go ?_))
  refine Split_lt (fun h1 => ?_) (fun h1 => ?_)
  · (repeat (first | simp -dsimp -implicitDefEqProofs (disch := omega) only [↓rP, rQ, rO, rL, ↓reduceIte, Nat.reduceEqDiff, Nat.reduceAdd, Nat.reduceLeDiff, pBuild, fillA, ↓tyr] | refine Cut.go ?_))
    rw [no (fun e => ((okC_iff c).1 e).1) (by omega)]
    (first | (refine And.intro (by simp) ?_; (repeat (first | assumption | with_reducible exact Keeps.refl _ _ | with_reducible refine Keeps.go ?_ (Keeps.one _ _) | with_reducible refine Keeps.go ?_ (by assumption)))) | (repeat (first | assumption | with_reducible exact Keeps.refl _ _ | with_reducible refine Keeps.go ?_ (Keeps.one _ _) | with_reducible refine Keeps.go ?_ (by assumption))))
  (repeat (first | simp -dsimp -implicitDefEqProofs (disch := omega) only [↓rP, rQ, rO, rL, ↓reduceIte, Nat.reduceEqDiff, Nat.reduceAdd, Nat.reduceLeDiff, pBuild, fillA, ↓tyr] | refine Cut.go ?_))
  refine Split_lt (fun h2 => ?_) (fun h2 => ?_)
  · (repeat (first | simp -dsimp -implicitDefEqProofs (disch := omega) only [↓rP, rQ, rO, rL, ↓reduceIte, Nat.reduceEqDiff, Nat.reduceAdd, Nat.reduceLeDiff, pBuild, fillA, ↓tyr] | refine Cut.go ?_))
    rw [no (fun e => ((okC_iff c).1 e).2.1) (by omega)]
    (first | (refine And.intro (by simp) ?_; (repeat (first | assumption | with_reducible exact Keeps.refl _ _ | with_reducible refine Keeps.go ?_ (Keeps.one _ _) | with_reducible refine Keeps.go ?_ (by assumption)))) | (repeat (first | assumption | with_reducible exact Keeps.refl _ _ | with_reducible refine Keeps.go ?_ (Keeps.one _ _) | with_reducible refine Keeps.go ?_ (by assumption))))
  (repeat (first | simp -dsimp -implicitDefEqProofs (disch := omega) only [↓rP, rQ, rO, rL, ↓reduceIte, Nat.reduceEqDiff, Nat.reduceAdd, Nat.reduceLeDiff, pBuild, fillA, ↓tyr] | refine Cut.go ?_))
  refine Split_lt (fun h3 => ?_) (fun h3 => ?_)
  · (repeat (first | simp -dsimp -implicitDefEqProofs (disch := omega) only [↓rP, rQ, rO, rL, ↓reduceIte, Nat.reduceEqDiff, Nat.reduceAdd, Nat.reduceLeDiff, pBuild, fillA, ↓tyr] | refine Cut.go ?_))
    rw [no (fun e => ((okC_iff c).1 e).2.2.1) (by omega)]
    (first | (refine And.intro (by simp) ?_; (repeat (first | assumption | with_reducible exact Keeps.refl _ _ | with_reducible refine Keeps.go ?_ (Keeps.one _ _) | with_reducible refine Keeps.go ?_ (by assumption)))) | (repeat (first | assumption | with_reducible exact Keeps.refl _ _ | with_reducible refine Keeps.go ?_ (Keeps.one _ _) | with_reducible refine Keeps.go ?_ (by assumption))))
  (repeat (first | simp -dsimp -implicitDefEqProofs (disch := omega) only [↓rP, rQ, rO, rL, ↓reduceIte, Nat.reduceEqDiff, Nat.reduceAdd, Nat.reduceLeDiff, pBuild, fillA, ↓tyr] | refine Cut.go ?_))
  refine Split_lt (fun h4 => ?_) (fun h4 => ?_)
  · (repeat (first | simp -dsimp -implicitDefEqProofs (disch := omega) only [↓rP, rQ, rO, rL, ↓reduceIte, Nat.reduceEqDiff, Nat.reduceAdd, Nat.reduceLeDiff, pBuild, fillA, ↓tyr] | refine Cut.go ?_))
    rw [no (fun e => ((okC_iff c).1 e).2.2.2.1) (by omega)]
    (first | (refine And.intro (by simp) ?_; (repeat (first | assumption | with_reducible exact Keeps.refl _ _ | with_reducible refine Keeps.go ?_ (Keeps.one _ _) | with_reducible refine Keeps.go ?_ (by assumption)))) | (repeat (first | assumption | with_reducible exact Keeps.refl _ _ | with_reducible refine Keeps.go ?_ (Keeps.one _ _) | with_reducible refine Keeps.go ?_ (by assumption))))
  (repeat (first | simp -dsimp -implicitDefEqProofs (disch := omega) only [↓rP, rQ, rO, rL, ↓reduceIte, Nat.reduceEqDiff, Nat.reduceAdd, Nat.reduceLeDiff, pBuild, fillA, ↓tyr] | refine Cut.go ?_))
  refine Split_lt (fun h5 => ?_) (fun h5 => ?_)
  · (repeat (first | simp -dsimp -implicitDefEqProofs (disch := omega) only [↓rP, rQ, rO, rL, ↓reduceIte, Nat.reduceEqDiff, Nat.reduceAdd, Nat.reduceLeDiff, pBuild, fillA, ↓tyr] | refine Cut.go ?_))
    rw [no (fun e => ((okC_iff c).1 e).2.2.2.2.1) (by omega)]
    (first | (refine And.intro (by simp) ?_; (repeat (first | assumption | with_reducible exact Keeps.refl _ _ | with_reducible refine Keeps.go ?_ (Keeps.one _ _) | with_reducible refine Keeps.go ?_ (by assumption)))) | (repeat (first | assumption | with_reducible exact Keeps.refl _ _ | with_reducible refine Keeps.go ?_ (Keeps.one _ _) | with_reducible refine Keeps.go ?_ (by assumption))))
  have bs : ∀ K : AV → AHeap → Prop, pBuildSl false { e := 39, sz := 1, by_ := 24 } [AV.nils] 1 [(0, slAV 3 Api_Local.cells c.Globals)] h K = K (.sl h.next 0 1 1) (h.push (.row 39 [slAV 3 Api_Local.cells c.Globals])) := fun K => by
    simp [pBuildSl, fillE, fits_slAV, cells_slAV]
  have ap : ∀ K : AV → AHeap → Prop, pAppend false { e := 39, sz := 1, by_ := 24 } (.sl h.next 0 1 1) (slAV 1 (fun o => [slAV 3 Api_Local.cells o]) c.Records) (h.push (.row 39 [slAV 3 Api_Local.cells c.Globals])) K
      = K (.sl (h.next + 1) 0 (c.Globals :: slL c.Records).length 1) (((h.push (.row 39 [slAV 3 Api_Local.cells c.Globals])).kill h.next).push (.row 39 ((c.Globals :: slL c.Records).map fun o => slAV 3 Api_Local.cells o))) := fun K => by
    have ef : ((slL c.Records).map fun o => [slAV 3 Api_Local.cells o]).flatten = (slL c.Records).map fun o => slAV 3 Api_Local.cells o := by
      induction slL c.Records with
      | nil => rfl
      | cons a l ih => simp [ih]
    simp only [pAppend, srcElems_slAV, AHeap.push_objs, if_true]
    rw [ef]
    simp [bounded, maxLen, Nat.add_comm]
    intro; omega
  (repeat (first | simp -dsimp -implicitDefEqProofs (disch := omega) only [↓rP, rQ, rO, rL, ↓reduceIte, Nat.reduceEqDiff, Nat.reduceAdd, Nat.reduceLeDiff, pBuild, fillA, ↓tyr, ↓bs, ↓ap] | refine Cut.go ?_))
  have kH : Keeps h (((h.push (.row 39 [slAV 3 Api_Local.cells c.Globals])).kill h.next).push (.row 39 ((c.Globals :: slL c.Records).map fun o => slAV 3 Api_Local.cells o))) (fun _ => False) := (keeps_kill (Keeps.one _ _) (Nat.le_refl _)).go (Keeps.one _ _)
  have hfl : ∀ o ∈ (c.Globals :: slL c.Records), (slL o).length ≤ 1000 := fun o ho => by
    rcases List.mem_cons.1 ho with rfl | ho
    · omega
    · have := sm.fields o ho; omega
  refine g_rows c (c.Globals :: slL c.Records) (by simp; omega) hfl _ (h.next + 1) (by simp) (by simp) _ (fun h6 hg k6 => ?_) (fun h6 hg k6 => ?_)
  · (repeat (first | simp -dsimp -implicitDefEqProofs (disch := omega) only [↓rP, rQ, rO, rL, ↓reduceIte, Nat.reduceEqDiff, Nat.reduceAdd, Nat.reduceLeDiff, pBuild, fillA, ↓tyr] | refine Cut.go ?_))
    rw [no (fun e => ((okC_iff c).1 e).2.2.2.2.2.1) (by rw [hg]; simp)]
    exact ⟨rfl, kH.go k6⟩
  (repeat (first | simp -dsimp -implicitDefEqProofs (disch := omega) only [↓rP, rQ, rO, rL, ↓reduceIte, Nat.reduceEqDiff, Nat.reduceAdd, Nat.reduceLeDiff, pBuild, fillA, ↓tyr] | refine Cut.go ?_))
  refine g_bodies c sm h6 _ (fun h7 hg7 k7 => ?_) (fun h7 hg7 k7 => ?_)
  · (repeat (first | simp -dsimp -implicitDefEqProofs (disch := omega) only [↓rP, rQ, rO, rL, ↓reduceIte, Nat.reduceEqDiff, Nat.reduceAdd, Nat.reduceLeDiff, pBuild, fillA, ↓tyr] | refine Cut.go ?_))
    rw [no (fun e => ((okC_iff c).1 e).2.2.2.2.2.2.1) (by rw [hg7]; simp)]
    exact ⟨rfl, (kH.go k6).go k7⟩
  (repeat (first | simp -dsimp -implicitDefEqProofs (disch := omega) only [↓rP, rQ, rO, rL, ↓reduceIte, Nat.reduceEqDiff, Nat.reduceAdd, Nat.reduceLeDiff, pBuild, fillA, ↓tyr] | refine Cut.go ?_))
  refine g_sections c sm h7 _ (fun h8 hg8 k8 => ?_) (fun h8 hg8 k8 => ?_)
  · (repeat (first | simp -dsimp -implicitDefEqProofs (disch := omega) only [↓rP, rQ, rO, rL, ↓reduceIte, Nat.reduceEqDiff, Nat.reduceAdd, Nat.reduceLeDiff, pBuild, fillA, ↓tyr] | refine Cut.go ?_))
    rw [no (fun e => ((okC_iff c).1 e).2.2.2.2.2.2.2.1) (by rw [hg8]; simp)]
    exact ⟨rfl, ((kH.go k6).go k7).go k8⟩
  (repeat (first | simp -dsimp -implicitDefEqProofs (disch := omega) only [↓rP, rQ, rO, rL, ↓reduceIte, Nat.reduceEqDiff, Nat.reduceAdd, Nat.reduceLeDiff, pBuild, fillA, ↓tyr] | refine Cut.go ?_))
  refine g_sites c sm h8 _ (fun h9 hg9 k9 => ?_) (fun h9 hg9 k9 => ?_)
  · (repeat (first | simp -dsimp -implicitDefEqProofs (disch := omega) only [↓rP, rQ, rO, rL, ↓reduceIte, Nat.reduceEqDiff, Nat.reduceAdd, Nat.reduceLeDiff, pBuild, fillA, ↓tyr] | refine Cut.go ?_))
    rw [no (fun e => ((okC_iff c).1 e).2.2.2.2.2.2.2.2.1) (by rw [hg9]; simp)]
    exact ⟨rfl, (((kH.go k6).go k7).go k8).go k9⟩
  (repeat (first | simp -dsimp -implicitDefEqProofs (disch := omega) only [↓rP, rQ, rO, rL, ↓reduceIte, Nat.reduceEqDiff, Nat.reduceAdd, Nat.reduceLeDiff, pBuild, fillA, ↓tyr] | refine Cut.go ?_))
  refine g_threads c hc sm hg7 h9 _ (fun h10 hg10 k10 => ?_) (fun h10 hg10 k10 => ?_)
  · (repeat (first | simp -dsimp -implicitDefEqProofs (disch := omega) only [↓rP, rQ, rO, rL, ↓reduceIte, Nat.reduceEqDiff, Nat.reduceAdd, Nat.reduceLeDiff, pBuild, fillA, ↓tyr] | refine Cut.go ?_))
    rw [no (fun e => ((okC_iff c).1 e).2.2.2.2.2.2.2.2.2) (by rw [hg10]; simp)]
    exact ⟨rfl, ((((kH.go k6).go k7).go k8).go k9).go k10⟩
  (repeat (first | simp -dsimp -implicitDefEqProofs (disch := omega) only [↓rP, rQ, rO, rL, ↓reduceIte, Nat.reduceEqDiff, Nat.reduceAdd, Nat.reduceLeDiff, pBuild, fillA, ↓tyr] | refine Cut.go ?_))
  rw [(okC_iff c).2 ⟨by omega, by omega, by omega, by omega, by omega, hg, hg7, hg8, hg9, hg10⟩]
  exact ⟨rfl, ((((kH.go k6).go k7).go k8).go k9).go k10⟩
theorem ref_Good_c (c : Cd) (hc : c.ok) (sm : Small c) (h : AHeap) : CallsA Tryd.prog 24 [.agg c.cells] h (fun v h2 => v = .bool (okC c) ∧ h2 = h) := CallsA.forget (by simp [idsIn]) (ref_Good_k c hc sm h)
end Go.Proofs.YtopfjochppdnfaaDoor
end

section
/- Plain: classes of sites that meet; forests; rounds that close a set. -/
namespace Go.Proofs.YtopfjochppdnfaaDoor
inductive Conn (R : Nat → Nat → Prop) : Nat → Nat → Prop
  | refl (a : Nat) : Conn R a a
  | tail {a b c : Nat} : Conn R a b → R b c → Conn R a c
namespace Conn
variable {R : Nat → Nat → Prop}
theorem one {a b : Nat} (h : R a b) : Conn R a b := (Conn.refl a).tail h
theorem trans {a b c : Nat} (h : Conn R a b) (k : Conn R b c) : Conn R a c := by
  induction k with
  | refl => exact h
  | tail _ r ih => exact ih.tail r
theorem symm (hs : ∀ a b, R a b → R b a) {a b : Nat} (h : Conn R a b) : Conn R b a := by
  induction h with
  | refl => exact .refl _
  | tail _ r ih => exact (one (hs _ _ r)).trans ih
theorem map {R' : Nat → Nat → Prop} (hm : ∀ a b, R a b → Conn R' a b) {a b : Nat} (h : Conn R a b) : Conn R' a b := by
  induction h with
  | refl => exact .refl _
  | tail _ r ih => exact ih.trans (hm _ _ r)
theorem closed {T : Nat → Prop} (hc : ∀ a b, T a → R a b → T b) {a b : Nat} (h : Conn R a b) (ha : T a) : T b := by
  induction h with
  | refl => exact ha
  | tail _ r ih => exact hc _ _ ih r
end Conn
def Prs (P : List (Nat × Nat)) (a b : Nat) : Prop := (a, b) ∈ P ∨ (b, a) ∈ P
theorem Prs.symm {P : List (Nat × Nat)} (a b : Nat) (h : Prs P a b) : Prs P b a := Or.symm h
theorem conn_snoc {P : List (Nat × Nat)} {i j x y : Nat} : Conn (Prs (P ++ [(i, j)])) x y ↔ Conn (Prs P) x y ∨ (Conn (Prs P) x i ∧ Conn (Prs P) j y) ∨ (Conn (Prs P) x j ∧ Conn (Prs P) i y) := by
  have up : ∀ {a b : Nat}, Conn (Prs P) a b → Conn (Prs (P ++ [(i, j)])) a b := fun h => h.map fun a b r => Conn.one (by
    rcases r with r | r
    · exact Or.inl (by simp [r])
    · exact Or.inr (by simp [r]))
  have hij : Conn (Prs (P ++ [(i, j)])) i j := Conn.one (Or.inl (by simp))
  have hji : Conn (Prs (P ++ [(i, j)])) j i := Conn.one (Or.inr (by simp))
  constructor
  · intro h
    induction h with
    | refl => exact Or.inl (.refl _)
    | @tail b c _ r ih =>
      have sy : ∀ {a b : Nat}, Conn (Prs P) a b → Conn (Prs P) b a := fun h => h.symm Prs.symm
      have hr : Prs P b c ∨ (b = i ∧ c = j) ∨ (b = j ∧ c = i) := by
        rcases r with r | r <;> simp only [List.mem_append, List.mem_singleton, Prod.mk.injEq] at r
        · rcases r with r | r
          · exact Or.inl (Or.inl r)
          · exact Or.inr (Or.inl r)
        · rcases r with r | ⟨r1, r2⟩
          · exact Or.inl (Or.inr r)
          · exact Or.inr (Or.inr ⟨r2, r1⟩)
      rcases hr with hr | ⟨rfl, rfl⟩ | ⟨rfl, rfl⟩
      · rcases ih with ih | ⟨h1, h2⟩ | ⟨h1, h2⟩
        · exact Or.inl (ih.tail hr)
        · exact Or.inr (Or.inl ⟨h1, h2.tail hr⟩)
        · exact Or.inr (Or.inr ⟨h1, h2.tail hr⟩)
      · rcases ih with ih | ⟨h1, h2⟩ | ⟨h1, h2⟩
        · exact Or.inr (Or.inl ⟨ih, .refl _⟩)
        · exact Or.inr (Or.inl ⟨h1, .refl _⟩)
        · exact Or.inl h1
      · rcases ih with ih | ⟨h1, h2⟩ | ⟨h1, h2⟩
        · exact Or.inr (Or.inr ⟨ih, .refl _⟩)
        · exact Or.inl h1
        · exact Or.inr (Or.inr ⟨h1, .refl _⟩)
  · rintro (h | ⟨h1, h2⟩ | ⟨h1, h2⟩)
    · exact up h
    · exact ((up h1).trans hij).trans (up h2)
    · exact ((up h1).trans hji).trans (up h2)
/-! Forests -/
def Low (f : List Nat) : Prop := ∀ (k v : Nat), f[k]? = some v → v ≤ k
def root (f : List Nat) (k : Nat) : Nat := if h : f.getD k k < k then root f (f.getD k k) else k
termination_by k
theorem root_step {f : List Nat} {k : Nat} (h : f.getD k k < k) : root f k = root f (f.getD k k) := by
  rw [root, dif_pos h]
theorem root_stop {f : List Nat} {k : Nat} (h : ¬ f.getD k k < k) : root f k = k := by
  rw [root, dif_neg h]
theorem Low.getD {f : List Nat} (h : Low f) (k : Nat) : f.getD k k ≤ k := by
  rw [List.getD_eq_getElem?_getD]
  cases hk : f[k]? with
  | none => simp
  | some v => simpa using h k v hk
theorem root_le {f : List Nat} : ∀ (k : Nat), root f k ≤ k := by
  intro k
  induction k using Nat.strongRecOn with
  | _ k ih =>
    by_cases h : f.getD k k < k
    · rw [root_step h]; have := ih _ h; omega
    · rw [root_stop h]; exact Nat.le_refl _
theorem root_fix {f : List Nat} : ∀ (k : Nat), ¬ f.getD (root f k) (root f k) < root f k := by
  intro k
  induction k using Nat.strongRecOn with
  | _ k ih =>
    by_cases h : f.getD k k < k
    · rw [root_step h]; exact ih _ h
    · rw [root_stop h]; exact h
theorem root_root {f : List Nat} (k : Nat) : root f (root f k) = root f k := root_stop (root_fix k)
theorem getD_set (f : List Nat) (k v j : Nat) (hk : k < f.length) : (f.set k v).getD j j = if j = k then v else f.getD j j := by
  rw [List.getD_eq_getElem?_getD, List.getElem?_set, List.getD_eq_getElem?_getD]
  by_cases e : k = j
  · subst e; simp [hk]
  · rw [if_neg e, if_neg (Ne.symm e)]
theorem Low.set {f : List Nat} (hl : Low f) {k v : Nat} (hv : v ≤ k) : Low (f.set k v) := by
  intro j x hx
  rw [List.getElem?_set] at hx
  split at hx
  · rename_i e
    split at hx
    · cases hx; omega
    · cases hx
  · exact hl j x hx
theorem root_halve {f : List Nat} (hl : Low f) {k : Nat} (hk : k < f.length) (h : f.getD k k < k) (j : Nat) : root (f.set k (f.getD (f.getD k k) (f.getD k k))) j = root f j := by
  obtain ⟨g, hg⟩ : ∃ g, g = f.getD (f.getD k k) (f.getD k k) := ⟨_, rfl⟩
  rw [← hg]
  have hgk : g ≤ f.getD k k := hg ▸ hl.getD _
  have hrg : root f k = root f g := by
    rw [root_step h]
    by_cases e : f.getD (f.getD k k) (f.getD k k) < f.getD k k
    · rw [root_step e, ← hg]
    · have : g = f.getD k k := by omega
      rw [this]
  induction j using Nat.strongRecOn with
  | _ j ih =>
    by_cases e : j = k
    · subst e
      have h1 : (f.set j g).getD j j = g := by rw [getD_set _ _ _ _ hk, if_pos rfl]
      rw [root_step (by rw [h1]; omega), h1, ih g (by omega), ← hrg]
    · have h1 : (f.set k g).getD j j = f.getD j j := by rw [getD_set _ _ _ _ hk, if_neg e]
      by_cases h2 : f.getD j j < j
      · rw [root_step (by rw [h1]; exact h2), h1, ih _ h2, ← root_step h2]
      · rw [root_stop (by rw [h1]; exact h2), root_stop h2]
theorem root_link {f : List Nat} (hl : Low f) {a b : Nat} (ha : a < f.length) (hb : b < f.length) (ra : root f a = a) (rb : root f b = b) (x : Nat) : root (f.set (max a b) (min a b)) x = if root f x = max a b then min a b else root f x := by
  have hM : max a b < f.length := by omega
  have rM : root f (max a b) = max a b := by
    rcases Nat.le_total a b with h | h
    · rw [Nat.max_eq_right h, rb]
    · rw [Nat.max_eq_left h, ra]
  have rm : root f (min a b) = min a b := by
    rcases Nat.le_total a b with h | h
    · rw [Nat.min_eq_left h, ra]
    · rw [Nat.min_eq_right h, rb]
  have hmM : min a b ≤ max a b := by omega
  generalize max a b = M at *
  generalize min a b = m at *
  have fM : ¬ f.getD M M < M := by have := root_fix (f := f) M; rwa [rM] at this
  have fm : ¬ f.getD m m < m := by have := root_fix (f := f) m; rwa [rm] at this
  induction x using Nat.strongRecOn with
  | _ x ih =>
    by_cases e : x = M
    · subst e
      rw [rM, if_pos rfl]
      have h1 : (f.set x m).getD x x = m := by rw [getD_set _ _ _ _ hM, if_pos rfl]
      rcases Nat.lt_or_eq_of_le hmM with hlt | heq
      · rw [root_step (by rw [h1]; exact hlt), h1, ih m hlt, rm, if_neg (by omega)]
      · rw [root_stop (by rw [h1]; omega)]; exact heq.symm
    · have h1 : (f.set M m).getD x x = f.getD x x := by rw [getD_set _ _ _ _ hM, if_neg e]
      by_cases h2 : f.getD x x < x
      · rw [root_step (by rw [h1]; exact h2), h1, ih _ h2, ← root_step h2]
      · rw [root_stop (by rw [h1]; exact h2), root_stop h2, if_neg e]
def Says (f : List Nat) (P : List (Nat × Nat)) : Prop := Low f ∧ ∀ x y, root f x = root f y ↔ Conn (Prs P) x y
theorem Says.start (n : Nat) : Says (List.range n) [] := by
  have hl : Low (List.range n) := fun k v h => by
    have := List.getElem?_eq_some_iff.1 h
    obtain ⟨h1, h2⟩ := this
    simp at h2; omega
  have hr : ∀ x, root (List.range n) x = x := fun x => root_stop (by
    rw [List.getD_eq_getElem?_getD]
    by_cases h : x < n <;> simp [h])
  refine ⟨hl, fun x y => ?_⟩
  rw [hr, hr]
  constructor
  · rintro rfl; exact .refl _
  · intro h
    induction h with
    | refl => rfl
    | tail _ r ih => rcases r with r | r <;> simp at r
theorem Says.same {f g : List Nat} {P : List (Nat × Nat)} (h : Says f P) (hl : Low g) (hr : ∀ x, root g x = root f x) : Says g P := ⟨hl, fun x y => by rw [hr, hr]; exact h.2 x y⟩
theorem Says.link {f : List Nat} {P : List (Nat × Nat)} (h : Says f P) {i j : Nat} (hi : i < f.length) (hj : j < f.length) : Says (f.set (max (root f i) (root f j)) (min (root f i) (root f j))) (P ++ [(i, j)]) := by
  have h1 : root f i < f.length := Nat.lt_of_le_of_lt (root_le i) hi
  have h2 : root f j < f.length := Nat.lt_of_le_of_lt (root_le j) hj
  refine ⟨h.1.set (by omega), fun x y => ?_⟩
  rw [root_link h.1 h1 h2 (root_root i) (root_root j), root_link h.1 h1 h2 (root_root i) (root_root j), conn_snoc, ← h.2, ← h.2, ← h.2, ← h.2, ← h.2]
  rcases Nat.le_total (root f i) (root f j) with hle | hle
  · rw [Nat.max_eq_right hle, Nat.min_eq_left hle]
    split <;> split <;> omega
  · rw [Nat.max_eq_left hle, Nat.min_eq_right hle]
    split <;> split <;> omega
/-! Sets -/
def MeetP (S : List Nat) (a b : Nat) : Prop := ∃ x ∈ S, x.testBit a = true ∧ x.testBit b = true
theorem MeetP.symm {S : List Nat} (a b : Nat) (h : MeetP S a b) : MeetP S b a := by obtain ⟨x, hx, h1, h2⟩ := h; exact ⟨x, hx, h2, h1⟩
def bitsOf (x : Nat) : List Nat := (List.range 64).filter fun k => x.testBit k
theorem mem_bits {x k : Nat} : k ∈ bitsOf x ↔ k < 64 ∧ x.testBit k = true := by simp [bitsOf]
def firstB (x : Nat) : Nat := (bitsOf x).headD 64
def prsOf (S : List Nat) : List (Nat × Nat) := (S.map fun x => (bitsOf x).map fun k => (firstB x, k)).flatten
theorem firstB_mem {x k : Nat} (h : k ∈ bitsOf x) : firstB x ∈ bitsOf x := by
  unfold firstB
  cases hb : bitsOf x with
  | nil => rw [hb] at h; cases h
  | cons a l => simp
def leadsB (f : List Nat) (k : Nat) : Nat := (List.range k).countP fun j => decide (root f j = j)
def clsOf (f : List Nat) (k : Nat) : Nat := leadsB f (root f k) + 1
theorem leadsB_succ (f : List Nat) (k : Nat) : leadsB f (k + 1) = leadsB f k + if root f k = k then 1 else 0 := by
  unfold leadsB
  rw [List.range_succ, List.countP_append]
  simp [List.countP_cons]
theorem leadsB_congr {f g : List Nat} (h : ∀ x, root g x = root f x) (k : Nat) : leadsB g k = leadsB f k := by simp only [leadsB, h]
theorem leadsB_mono (f : List Nat) {i k : Nat} (h : i ≤ k) : leadsB f i ≤ leadsB f k := by
  induction h with
  | refl => exact Nat.le_refl _
  | @step m _ ih => rw [show m.succ = m + 1 from rfl, leadsB_succ]; omega
theorem clsOf_congr {f g : List Nat} (h : ∀ x, root g x = root f x) (k : Nat) : clsOf g k = clsOf f k := by simp only [clsOf, h, leadsB_congr h]
theorem clsOf_eq {f : List Nat} {i j : Nat} : clsOf f i = clsOf f j ↔ root f i = root f j := by
  constructor
  · intro h
    have key : ∀ {a b : Nat}, root f a = a → a < b → leadsB f a < leadsB f b := fun {a b} ha hab => by
      have h1 := leadsB_mono f (show a + 1 ≤ b by omega)
      rw [leadsB_succ, if_pos ha] at h1; omega
    simp only [clsOf] at h
    rcases Nat.lt_trichotomy (root f i) (root f j) with hl | he | hl
    · have := key (root_root i) hl; omega
    · exact he
    · have := key (root_root j) hl; omega
  · intro h; simp only [clsOf, h]
/-! Rounds -/
theorem countP_lt {n : Nat} {p q : Nat → Bool} (h : ∀ j, j < n → p j = true → q j = true) {b : Nat} (hb : b < n) (h1 : p b = false) (h2 : q b = true) : (List.range n).countP p < (List.range n).countP q := by
  induction n with
  | zero => omega
  | succ n ih =>
    rw [List.range_succ, List.countP_append, List.countP_append]
    have hle : (List.range n).countP p ≤ (List.range n).countP q := List.countP_mono_left fun j hj hp => h j (by have := List.mem_range.1 hj; omega) hp
    rcases Nat.lt_or_eq_of_le (show b ≤ n by omega) with hbn | rfl
    · have := ih (fun j hj => h j (by omega)) hbn
      have h3 := h n (by omega)
      cases hp : p n <;> cases hq : q n <;> simp_all <;> omega
    · simp [h1, h2]; omega
def Come (n : Nat) (R : Nat → Nat → Prop) (r : Nat) (T : Nat → Bool) : Prop := (∀ a b, a < n → b < n → T a = true → R a b → T b = true) ∨ r + 1 ≤ (List.range n).countP T
theorem Come.next {n : Nat} {R : Nat → Nat → Prop} {r : Nat} {T T' : Nat → Bool} (h : Come n R r T) (hm : ∀ j, j < n → T j = true → T' j = true) (hc : ∀ a b, a < n → b < n → T a = true → R a b → T' b = true) (hs : (∀ a b, a < n → b < n → T a = true → R a b → T b = true) → ∀ j, j < n → T' j = T j) : Come n R (r + 1) T' := by
  by_cases hcl : ∀ a b, a < n → b < n → T a = true → R a b → T b = true
  · have := hs hcl
    left
    intro a b ha hb h1 h2
    rw [this b hb]
    exact hcl a b ha hb (by rw [← this a ha]; exact h1) h2
  · right
    have hge := h.resolve_left hcl
    obtain ⟨b, hb, h1, h2⟩ : ∃ b, b < n ∧ T b = false ∧ T' b = true := by
      apply Classical.byContradiction
      intro hn
      apply hcl
      intro a b ha hb h1 h2
      cases hT : T b with
      | true => rfl
      | false => exact absurd ⟨b, hb, hT, hc a b ha hb h1 h2⟩ hn
    have := countP_lt hm hb h1 h2
    omega
end Go.Proofs.YtopfjochppdnfaaDoor
end

section
/- Plain: the lowest bit of a set, and the set without it. -/
namespace Go.Proofs.YtopfjochppdnfaaDoor
theorem firstB_find (x : Nat) : firstB x = ((List.range 64).find? fun k => x.testBit k).getD 64 := by
  unfold firstB bitsOf
  rw [List.headD_eq_head?_getD, List.head?_filter]
theorem firstB_low {x : Nat} (h0 : x ≠ 0) (hx : x < 18446744073709551616) : firstB x < 64 ∧ x.testBit (firstB x) = true ∧ ∀ j, j < firstB x → x.testBit j = false := by
  obtain ⟨i, hi⟩ := Nat.exists_testBit_of_ne_zero h0
  have hi64 : i < 64 := by
    apply Classical.byContradiction
    intro hn
    have : x < 2 ^ i := Nat.lt_of_lt_of_le (by simpa using hx) (Nat.pow_le_pow_right (by decide) (show 64 ≤ i by omega))
    rw [Nat.testBit_lt_two_pow this] at hi; cases hi
  rw [firstB_find]
  cases hf : (List.range 64).find? fun k => x.testBit k with
  | none =>
    rw [List.find?_eq_none] at hf
    exact absurd hi (hf i (List.mem_range.2 hi64))
  | some k =>
    rw [List.find?_range_eq_some] at hf
    obtain ⟨h1, h2, h3⟩ := hf
    refine ⟨List.mem_range.1 h2, h1, fun j hj => ?_⟩
    have := h3 j hj
    simpa using this
theorem firstB_zero : firstB 0 = 64 := by decide
theorem pred_bits {x k : Nat} (hk : x.testBit k = true) (hl : ∀ j, j < k → x.testBit j = false) (i : Nat) : (x - 1).testBit i = if i < k then true else if i = k then false else x.testBit i := by
  have hm : x % 2 ^ k = 0 := by
    apply Nat.eq_of_testBit_eq
    intro j
    rw [Nat.testBit_mod_two_pow, Nat.zero_testBit]
    by_cases h : j < k
    · rw [hl j h]; simp
    · simp [h]
  obtain ⟨q, hq⟩ : ∃ q, q = x / 2 ^ k := ⟨_, rfl⟩
  have hx : x = 2 ^ k * q := by have := Nat.div_add_mod x (2 ^ k); rw [hm, ← hq] at this; omega
  have hqb : ∀ j, q.testBit j = x.testBit (k + j) := fun j => by rw [hq, Nat.testBit_div_two_pow, Nat.add_comm]
  have hq1 : q % 2 = 1 := by
    have := hqb 0
    rw [Nat.testBit_zero] at this
    simpa [hk] using this
  have hp : 0 < 2 ^ k := Nat.pow_pos (by decide)
  have hx1 : x - 1 = 2 ^ k * (q - 1) + (2 ^ k - 1) := by
    rw [hx, Nat.mul_sub]
    have : 2 ^ k ≤ 2 ^ k * q := Nat.le_mul_of_pos_right _ (by omega)
    omega
  rw [hx1, Nat.testBit_two_pow_mul_add _ (by omega : 2 ^ k - 1 < 2 ^ k)]
  by_cases h : i < k
  · rw [if_pos h, if_pos h, Nat.testBit_two_pow_sub_one]; simp [h]
  · rw [if_neg h, if_neg h]
    by_cases h2 : i = k
    · rw [if_pos h2, h2, Nat.sub_self, Nat.testBit_zero]
      simp; omega
    · rw [if_neg h2]
      obtain ⟨j, rfl⟩ : ∃ j, i = k + (j + 1) := ⟨i - k - 1, by omega⟩
      rw [← hqb, show k + (j + 1) - k = j + 1 by omega, Nat.testBit_succ, Nat.testBit_succ]
      congr 1; omega
theorem and_neg {x : Nat} (h0 : x ≠ 0) (hx : x < 18446744073709551616) : x &&& (18446744073709551616 - x) = 2 ^ firstB x := by
  obtain ⟨h1, h2, h3⟩ := firstB_low h0 hx
  apply Nat.eq_of_testBit_eq
  intro i
  have e : 18446744073709551616 - x = 2 ^ 64 - ((x - 1) + 1) := by
    rw [show (2 : Nat) ^ 64 = 18446744073709551616 by decide]; omega
  rw [Nat.testBit_and, e, Nat.testBit_two_pow_sub_succ (by rw [show (2 : Nat) ^ 64 = 18446744073709551616 by decide]; omega), pred_bits h2 h3, Nat.testBit_two_pow]
  by_cases a : i < firstB x
  · rw [if_pos a, h3 i a]
    have : ¬ firstB x = i := by omega
    simp [this]
  · rw [if_neg a]
    by_cases b : i = firstB x
    · rw [if_pos b, b, h2]; simp [h1]
    · rw [if_neg b]
      have : ¬ firstB x = i := fun e => b e.symm
      cases x.testBit i <;> simp [this]
theorem and_pred {x : Nat} (h0 : x ≠ 0) (hx : x < 18446744073709551616) : bitsOf x = firstB x :: bitsOf (x &&& (x - 1)) := by
  obtain ⟨h1, h2, h3⟩ := firstB_low h0 hx
  have hb : ∀ i, (x &&& (x - 1)).testBit i = (decide (i ≠ firstB x) && x.testBit i) := fun i => by
    rw [Nat.testBit_and, pred_bits h2 h3]
    by_cases a : i < firstB x
    · rw [if_pos a, h3 i a]; simp
    · rw [if_neg a]
      by_cases b : i = firstB x
      · rw [if_pos b, b]; simp
      · rw [if_neg b]; simp [b]
  have hf : bitsOf (x &&& (x - 1)) = (bitsOf x).filter fun i => decide (i ≠ firstB x) := by
    unfold bitsOf
    rw [List.filter_filter]
    congr 1
    funext i
    exact hb i
  have hnd : (bitsOf x).Nodup := List.nodup_range.filter _
  have hmem : firstB x ∈ bitsOf x := mem_bits.2 ⟨h1, h2⟩
  rw [hf]
  obtain ⟨k, hkk⟩ : ∃ k, k = firstB x := ⟨_, rfl⟩
  rw [← hkk] at hmem ⊢
  have hd : (bitsOf x).headD 64 = k := hkk.symm
  cases hbx : bitsOf x with
  | nil => rw [hbx] at hmem; cases hmem
  | cons a l =>
    rw [hbx] at hd hnd
    simp at hd
    subst hd
    have hn := List.nodup_cons.1 hnd
    congr 1
    rw [List.filter_cons_of_neg (by simp)]
    refine (List.filter_eq_self.2 fun y hy => ?_).symm
    simp
    rintro rfl
    exact hn.1 hy
theorem bits_zero : bitsOf 0 = [] := by decide
theorem pred_lt {x : Nat} (hx : x < 18446744073709551616) : x &&& (x - 1) < 18446744073709551616 := Nat.lt_of_le_of_lt Nat.and_le_left hx
theorem debruijn : ∀ k : Nat, k < 64 → Go.Abs.tabBits[2 ^ k * 285870213051353865 % 18446744073709551616 / 2 ^ 58]? = some (k : Int) ∧ 2 ^ k * 285870213051353865 % 18446744073709551616 / 2 ^ 58 < 64 := by decide +kernel
end Go.Proofs.YtopfjochppdnfaaDoor
end

