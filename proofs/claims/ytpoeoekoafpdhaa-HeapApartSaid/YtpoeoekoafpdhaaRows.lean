/-
  No cell of these rows narrows 'for every input' (looked for: loops, veiled, ifaces, maps, wideKeys, modest, calm, conditions, laid).
  DERIVED. THE GIVEN ROWS OF THIS SEAT. 9 by the template 'for every input the law returns true; each argument reads behind the call as it read before'; 0 by the template 'total and deterministic' (their statements: YtpoeoekoafpdhaaTotals.lean).
  GIVEN WITH THE SEED: the statements are not yours to turn. If you find one false, say at which input.
  Laid BY PROGRAM, IN A SANDBOX (cutbox-rows.mjs): the forced cells as the released guide's own fill.sh prints them over the translation bc586b3eba7d3667… (all of the seat's roots in one cut). By AI agents, Wed Nov 11 2026. No macro, syntax, notation, axiom, sorry.
-/
import Derived.Test.YtpoeoekoafpdhaaChecked
import GoSem.Claim
import GoSem.ClaimJoined
import GoSem.ClaimMapViews
import Derived.JoinedTies
import Derived.KernelRfl
namespace Go.Proofs.Ytpoeoekoafpdhaa
/- THE CELL 'sum', in the pinned program and in every row, IS THE sha256 OF THE DUMP (.gsa) THAT YtpoeoekoafpdhaaProg.lean LOADS. Nothing in Lean hashes anything: it is a label: what it is worth is what the hold of that sum in a sandbox is worth. -/
noncomputable def Try.pinned : Pinned := { name := "ytpoeoekoafpdhaa", sum := "bc586b3eba7d3667b54177ed06cdc2e3379bb9e6e7f935fcfd2f76c48d2cd227", checked := Try.checked }
namespace Rows
def none {H : Type} : Left H := { results := [], args := [] }

/-- 'padlocklaw02.PenOnce': WHATEVER THE INPUT: true; the input reads as it did. -/
def penOnceSpec : ChangeSpec := { name := "penOnce", fn := fun _ => fun
  | [d] => { results := [.lit (.bool true)], args := [d] }
  | _ => none }
def penOnceRow : OpenClaim := { program := "ytpoeoekoafpdhaa", sum := "bc586b3eba7d3667b54177ed06cdc2e3379bb9e6e7f935fcfd2f76c48d2cd227", func := "padlock/padlocklaw02.PenOnce", spec := "penOnce", apart := false }
def PenOnceSaid : Prop := penOnceRow.holds Try.pinned (OpenSpec.ofChange penOnceSpec)

/-- ITS FALSE NEIGHBOUR: 'it returns false'. Refute it at one input. -/
def penOnceWrong : ChangeSpec := { name := "penOnce", fn := fun _ => fun
  | [d] => { results := [.lit (.bool false)], args := [d] }
  | _ => none }
def PenOnceWrongFalsely : Prop := penOnceRow.holds Try.pinned (OpenSpec.ofChange penOnceWrong)

/-- 'padlocklaw17.HeapOwn': WHATEVER THE INPUT: true; the input reads as it did. -/
def heapOwnSpec : ChangeSpec := { name := "heapOwn", fn := fun _ => fun
  | [d1, d2] => { results := [.lit (.bool true)], args := [d1, d2] }
  | _ => none }
def heapOwnRow : OpenClaim := { program := "ytpoeoekoafpdhaa", sum := "bc586b3eba7d3667b54177ed06cdc2e3379bb9e6e7f935fcfd2f76c48d2cd227", func := "padlock/padlocklaw17.HeapOwn", spec := "heapOwn", apart := false }
def HeapOwnSaid : Prop := heapOwnRow.holds Try.pinned (OpenSpec.ofChange heapOwnSpec)

/-- ITS FALSE NEIGHBOUR: 'it returns false'. Refute it at one input. -/
def heapOwnWrong : ChangeSpec := { name := "heapOwn", fn := fun _ => fun
  | [d1, d2] => { results := [.lit (.bool false)], args := [d1, d2] }
  | _ => none }
def HeapOwnWrongFalsely : Prop := heapOwnRow.holds Try.pinned (OpenSpec.ofChange heapOwnWrong)

/-- 'padlocklaw02.PenPuts': WHATEVER THE INPUT: true; the input reads as it did. -/
def penPutsSpec : ChangeSpec := { name := "penPuts", fn := fun _ => fun
  | [d] => { results := [.lit (.bool true)], args := [d] }
  | _ => none }
def penPutsRow : OpenClaim := { program := "ytpoeoekoafpdhaa", sum := "bc586b3eba7d3667b54177ed06cdc2e3379bb9e6e7f935fcfd2f76c48d2cd227", func := "padlock/padlocklaw02.PenPuts", spec := "penPuts", recurses := true, apart := false }
def PenPutsSaid : Prop := penPutsRow.holds Try.pinned (OpenSpec.ofChange penPutsSpec)

/-- ITS FALSE NEIGHBOUR: 'it returns false'. Refute it at one input. -/
def penPutsWrong : ChangeSpec := { name := "penPuts", fn := fun _ => fun
  | [d] => { results := [.lit (.bool false)], args := [d] }
  | _ => none }
def PenPutsWrongFalsely : Prop := penPutsRow.holds Try.pinned (OpenSpec.ofChange penPutsWrong)

/-- 'padlocklaw02.PenJoins': WHATEVER THE INPUT: true; the input reads as it did. -/
def penJoinsSpec : ChangeSpec := { name := "penJoins", fn := fun _ => fun
  | [d1, d2] => { results := [.lit (.bool true)], args := [d1, d2] }
  | _ => none }
def penJoinsRow : OpenClaim := { program := "ytpoeoekoafpdhaa", sum := "bc586b3eba7d3667b54177ed06cdc2e3379bb9e6e7f935fcfd2f76c48d2cd227", func := "padlock/padlocklaw02.PenJoins", spec := "penJoins", recurses := true, apart := false }
def PenJoinsSaid : Prop := penJoinsRow.holds Try.pinned (OpenSpec.ofChange penJoinsSpec)

/-- ITS FALSE NEIGHBOUR: 'it returns false'. Refute it at one input. -/
def penJoinsWrong : ChangeSpec := { name := "penJoins", fn := fun _ => fun
  | [d1, d2] => { results := [.lit (.bool false)], args := [d1, d2] }
  | _ => none }
def PenJoinsWrongFalsely : Prop := penJoinsRow.holds Try.pinned (OpenSpec.ofChange penJoinsWrong)

/-- 'padlocklaw17.HeapRoom': WHATEVER THE INPUT: true; the input reads as it did. -/
def heapRoomSpec : ChangeSpec := { name := "heapRoom", fn := fun _ => fun
  | [d1, d2, d3] => { results := [.lit (.bool true)], args := [d1, d2, d3] }
  | _ => none }
def heapRoomRow : OpenClaim := { program := "ytpoeoekoafpdhaa", sum := "bc586b3eba7d3667b54177ed06cdc2e3379bb9e6e7f935fcfd2f76c48d2cd227", func := "padlock/padlocklaw17.HeapRoom", spec := "heapRoom", apart := false }
def HeapRoomSaid : Prop := heapRoomRow.holds Try.pinned (OpenSpec.ofChange heapRoomSpec)

/-- ITS FALSE NEIGHBOUR: 'it returns false'. Refute it at one input. -/
def heapRoomWrong : ChangeSpec := { name := "heapRoom", fn := fun _ => fun
  | [d1, d2, d3] => { results := [.lit (.bool false)], args := [d1, d2, d3] }
  | _ => none }
def HeapRoomWrongFalsely : Prop := heapRoomRow.holds Try.pinned (OpenSpec.ofChange heapRoomWrong)

/-- 'padlocklaw02.PenReads': WHATEVER THE INPUT: true; the input reads as it did. -/
def penReadsSpec : ChangeSpec := { name := "penReads", fn := fun _ => fun
  | [d1, d2] => { results := [.lit (.bool true)], args := [d1, d2] }
  | _ => none }
def penReadsRow : OpenClaim := { program := "ytpoeoekoafpdhaa", sum := "bc586b3eba7d3667b54177ed06cdc2e3379bb9e6e7f935fcfd2f76c48d2cd227", func := "padlock/padlocklaw02.PenReads", spec := "penReads", recurses := true, apart := false }
def PenReadsSaid : Prop := penReadsRow.holds Try.pinned (OpenSpec.ofChange penReadsSpec)

/-- ITS FALSE NEIGHBOUR: 'it returns false'. Refute it at one input. -/
def penReadsWrong : ChangeSpec := { name := "penReads", fn := fun _ => fun
  | [d1, d2] => { results := [.lit (.bool false)], args := [d1, d2] }
  | _ => none }
def PenReadsWrongFalsely : Prop := penReadsRow.holds Try.pinned (OpenSpec.ofChange penReadsWrong)

/-- 'padlocklaw02.PenCuts': WHATEVER THE INPUT: true; the input reads as it did. -/
def penCutsSpec : ChangeSpec := { name := "penCuts", fn := fun _ => fun
  | [d1, d2] => { results := [.lit (.bool true)], args := [d1, d2] }
  | _ => none }
def penCutsRow : OpenClaim := { program := "ytpoeoekoafpdhaa", sum := "bc586b3eba7d3667b54177ed06cdc2e3379bb9e6e7f935fcfd2f76c48d2cd227", func := "padlock/padlocklaw02.PenCuts", spec := "penCuts", apart := false }
def PenCutsSaid : Prop := penCutsRow.holds Try.pinned (OpenSpec.ofChange penCutsSpec)

/-- ITS FALSE NEIGHBOUR: 'it returns false'. Refute it at one input. -/
def penCutsWrong : ChangeSpec := { name := "penCuts", fn := fun _ => fun
  | [d1, d2] => { results := [.lit (.bool false)], args := [d1, d2] }
  | _ => none }
def PenCutsWrongFalsely : Prop := penCutsRow.holds Try.pinned (OpenSpec.ofChange penCutsWrong)

/-- 'padlocklaw17.HeapApart': WHATEVER THE INPUT: true; the input reads as it did. -/
def heapApartSpec : ChangeSpec := { name := "heapApart", fn := fun _ => fun
  | [d1, d2, d3, d4] => { results := [.lit (.bool true)], args := [d1, d2, d3, d4] }
  | _ => none }
def heapApartRow : OpenClaim := { program := "ytpoeoekoafpdhaa", sum := "bc586b3eba7d3667b54177ed06cdc2e3379bb9e6e7f935fcfd2f76c48d2cd227", func := "padlock/padlocklaw17.HeapApart", spec := "heapApart", apart := false }
def HeapApartSaid : Prop := heapApartRow.holds Try.pinned (OpenSpec.ofChange heapApartSpec)

/-- ITS FALSE NEIGHBOUR: 'it returns false'. Refute it at one input. -/
def heapApartWrong : ChangeSpec := { name := "heapApart", fn := fun _ => fun
  | [d1, d2, d3, d4] => { results := [.lit (.bool false)], args := [d1, d2, d3, d4] }
  | _ => none }
def HeapApartWrongFalsely : Prop := heapApartRow.holds Try.pinned (OpenSpec.ofChange heapApartWrong)

/-- 'padlocklaw02.PenBack': WHATEVER THE INPUT: true; the input reads as it did. -/
def penBackSpec : ChangeSpec := { name := "penBack", fn := fun _ => fun
  | [d] => { results := [.lit (.bool true)], args := [d] }
  | _ => none }
def penBackRow : OpenClaim := { program := "ytpoeoekoafpdhaa", sum := "bc586b3eba7d3667b54177ed06cdc2e3379bb9e6e7f935fcfd2f76c48d2cd227", func := "padlock/padlocklaw02.PenBack", spec := "penBack", recurses := true, apart := false }
def PenBackSaid : Prop := penBackRow.holds Try.pinned (OpenSpec.ofChange penBackSpec)

/-- ITS FALSE NEIGHBOUR: 'it returns false'. Refute it at one input. -/
def penBackWrong : ChangeSpec := { name := "penBack", fn := fun _ => fun
  | [d] => { results := [.lit (.bool false)], args := [d] }
  | _ => none }
def PenBackWrongFalsely : Prop := penBackRow.holds Try.pinned (OpenSpec.ofChange penBackWrong)

/- THE SECOND FORM. 'bulk': how many values and letters a reading holds, each counted each time it is reached (what is shared counts as often as it is met; a slice's spare places count too). A statement '..UptoSaid' is the law's where the arguments, and the package variables that the reading takes, are together of bulk at most 1048576: NARROWER than '..Said'. Prove '..Said' where nothing that the law and all that it calls make is longer than what came in: it says more and counts as full. Else prove '..UptoSaid'. A law counts once. -/
mutual
def uptoBulk {H : Type} : DataW H → Nat
  | .lit (.string bytes) => bytes.length + 1
  | .lit _ => 1
  | .nil => 1
  | .ptr d => uptoBulk d + 1
  | .slice elems spare => uptoBulkAll elems + uptoBulkAll spare + 1
  | .agg parts => uptoBulkAll parts + 1
  | .iface _ d => uptoBulk d + 1
  | .map entries => uptoBulkEntries entries + 1
  | .held _ => 1
def uptoBulkAll {H : Type} : List (DataW H) → Nat
  | [] => 0
  | d :: r => uptoBulk d + uptoBulkAll r
def uptoBulkEntries {H : Type} : List (Lit × DataW H) → Nat
  | [] => 0
  | x :: r => uptoBulkEntry x + uptoBulkEntries r
def uptoBulkEntry {H : Type} : Lit × DataW H → Nat
  | (.string bytes, d) => bytes.length + uptoBulk d + 1
  | (_, d) => uptoBulk d + 1
 end
def uptoSmall : (H : Type) → List (DataW H) → Bool := fun _ ds => decide (uptoBulkAll ds ≤ 1048576)
def OpenSpec.upto (s : _root_.Go.ChangeSpec) : _root_.Go.OpenSpec := { _root_.Go.OpenSpec.ofChange s with cond := some uptoSmall }

/-- 'padlocklaw02.PenOnce', WHERE WHAT IT READS IS OF BULK AT MOST 1048576: true; the input reads as it did. -/
def penOnceUptoRow : OpenClaim := { program := "ytpoeoekoafpdhaa", sum := "bc586b3eba7d3667b54177ed06cdc2e3379bb9e6e7f935fcfd2f76c48d2cd227", func := "padlock/padlocklaw02.PenOnce", spec := "penOnce", apart := false, narrowed := true }
def PenOnceUptoSaid : Prop := penOnceUptoRow.holds Try.pinned (OpenSpec.upto penOnceSpec)

/-- 'padlocklaw17.HeapOwn', WHERE WHAT IT READS IS OF BULK AT MOST 1048576: true; the input reads as it did. -/
def heapOwnUptoRow : OpenClaim := { program := "ytpoeoekoafpdhaa", sum := "bc586b3eba7d3667b54177ed06cdc2e3379bb9e6e7f935fcfd2f76c48d2cd227", func := "padlock/padlocklaw17.HeapOwn", spec := "heapOwn", apart := false, narrowed := true }
def HeapOwnUptoSaid : Prop := heapOwnUptoRow.holds Try.pinned (OpenSpec.upto heapOwnSpec)

/-- 'padlocklaw02.PenPuts', WHERE WHAT IT READS IS OF BULK AT MOST 1048576: true; the input reads as it did. -/
def penPutsUptoRow : OpenClaim := { program := "ytpoeoekoafpdhaa", sum := "bc586b3eba7d3667b54177ed06cdc2e3379bb9e6e7f935fcfd2f76c48d2cd227", func := "padlock/padlocklaw02.PenPuts", spec := "penPuts", recurses := true, apart := false, narrowed := true }
def PenPutsUptoSaid : Prop := penPutsUptoRow.holds Try.pinned (OpenSpec.upto penPutsSpec)

/-- 'padlocklaw02.PenJoins', WHERE WHAT IT READS IS OF BULK AT MOST 1048576: true; the input reads as it did. -/
def penJoinsUptoRow : OpenClaim := { program := "ytpoeoekoafpdhaa", sum := "bc586b3eba7d3667b54177ed06cdc2e3379bb9e6e7f935fcfd2f76c48d2cd227", func := "padlock/padlocklaw02.PenJoins", spec := "penJoins", recurses := true, apart := false, narrowed := true }
def PenJoinsUptoSaid : Prop := penJoinsUptoRow.holds Try.pinned (OpenSpec.upto penJoinsSpec)

/-- 'padlocklaw17.HeapRoom', WHERE WHAT IT READS IS OF BULK AT MOST 1048576: true; the input reads as it did. -/
def heapRoomUptoRow : OpenClaim := { program := "ytpoeoekoafpdhaa", sum := "bc586b3eba7d3667b54177ed06cdc2e3379bb9e6e7f935fcfd2f76c48d2cd227", func := "padlock/padlocklaw17.HeapRoom", spec := "heapRoom", apart := false, narrowed := true }
def HeapRoomUptoSaid : Prop := heapRoomUptoRow.holds Try.pinned (OpenSpec.upto heapRoomSpec)

/-- 'padlocklaw02.PenReads', WHERE WHAT IT READS IS OF BULK AT MOST 1048576: true; the input reads as it did. -/
def penReadsUptoRow : OpenClaim := { program := "ytpoeoekoafpdhaa", sum := "bc586b3eba7d3667b54177ed06cdc2e3379bb9e6e7f935fcfd2f76c48d2cd227", func := "padlock/padlocklaw02.PenReads", spec := "penReads", recurses := true, apart := false, narrowed := true }
def PenReadsUptoSaid : Prop := penReadsUptoRow.holds Try.pinned (OpenSpec.upto penReadsSpec)

/-- 'padlocklaw02.PenCuts', WHERE WHAT IT READS IS OF BULK AT MOST 1048576: true; the input reads as it did. -/
def penCutsUptoRow : OpenClaim := { program := "ytpoeoekoafpdhaa", sum := "bc586b3eba7d3667b54177ed06cdc2e3379bb9e6e7f935fcfd2f76c48d2cd227", func := "padlock/padlocklaw02.PenCuts", spec := "penCuts", apart := false, narrowed := true }
def PenCutsUptoSaid : Prop := penCutsUptoRow.holds Try.pinned (OpenSpec.upto penCutsSpec)

/-- 'padlocklaw17.HeapApart', WHERE WHAT IT READS IS OF BULK AT MOST 1048576: true; the input reads as it did. -/
def heapApartUptoRow : OpenClaim := { program := "ytpoeoekoafpdhaa", sum := "bc586b3eba7d3667b54177ed06cdc2e3379bb9e6e7f935fcfd2f76c48d2cd227", func := "padlock/padlocklaw17.HeapApart", spec := "heapApart", apart := false, narrowed := true }
def HeapApartUptoSaid : Prop := heapApartUptoRow.holds Try.pinned (OpenSpec.upto heapApartSpec)

/-- 'padlocklaw02.PenBack', WHERE WHAT IT READS IS OF BULK AT MOST 1048576: true; the input reads as it did. -/
def penBackUptoRow : OpenClaim := { program := "ytpoeoekoafpdhaa", sum := "bc586b3eba7d3667b54177ed06cdc2e3379bb9e6e7f935fcfd2f76c48d2cd227", func := "padlock/padlocklaw02.PenBack", spec := "penBack", recurses := true, apart := false, narrowed := true }
def PenBackUptoSaid : Prop := penBackUptoRow.holds Try.pinned (OpenSpec.upto penBackSpec)

end Rows
end Go.Proofs.Ytpoeoekoafpdhaa
