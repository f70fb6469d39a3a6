/-
  No cell of these rows narrows 'for every input' (looked for: loops, veiled, ifaces, maps, wideKeys, modest, calm, conditions, laid).
  DERIVED. THE GIVEN ROWS OF THIS SEAT. 12 by the template 'for every input the law returns true; each argument reads behind the call as it read before'; 0 by the template 'total and deterministic' (their statements: YtkmehngemidiiaaTotals.lean).
  GIVEN WITH THE SEED: the statements are not yours to turn. If you find one false, say at which input.
  Laid BY PROGRAM, IN A SANDBOX (cutbox-rows.mjs): the forced cells as the released guide's own fill.sh prints them over the translation 9cce06e51ff8cf06… (all of the seat's roots in one cut). By AI agents, Wed Nov 11 2026. No macro, syntax, notation, axiom, sorry.
-/
import Derived.Test.YtkmehngemidiiaaChecked
import GoSem.Claim
import GoSem.ClaimJoined
import GoSem.ClaimMapViews
import Derived.JoinedTies
import Derived.KernelRfl
namespace Go.Proofs.Ytkmehngemidiiaa
/- THE CELL 'sum', in the pinned program and in every row, IS THE sha256 OF THE DUMP (.gsa) THAT YtkmehngemidiiaaProg.lean LOADS. Nothing in Lean hashes anything: it is a label: what it is worth is what the hold of that sum in a sandbox is worth. -/
noncomputable def Try.pinned : Pinned := { name := "ytkmehngemidiiaa", sum := "9cce06e51ff8cf06d58d2d066090cbf360f2f57b4ffd1f56932cafdef6a7e1b1", checked := Try.checked }
namespace Rows
def none {H : Type} : Left H := { results := [], args := [] }

/-- 'padlocklaw01.NumInts': WHATEVER THE INPUT: true; the input reads as it did. -/
def numIntsSpec : ChangeSpec := { name := "numInts", fn := fun _ => fun
  | [d1, d2, d3] => { results := [.lit (.bool true)], args := [d1, d2, d3] }
  | _ => none }
def numIntsRow : OpenClaim := { program := "ytkmehngemidiiaa", sum := "9cce06e51ff8cf06d58d2d066090cbf360f2f57b4ffd1f56932cafdef6a7e1b1", func := "padlock/padlocklaw01.NumInts", spec := "numInts", inPlace := ["math.Float64bits", "math.Float64frombits"], apart := false }
def NumIntsSaid : Prop := numIntsRow.holds Try.pinned (OpenSpec.ofChange numIntsSpec)

/-- ITS FALSE NEIGHBOUR: 'it returns false'. Refute it at one input. -/
def numIntsWrong : ChangeSpec := { name := "numInts", fn := fun _ => fun
  | [d1, d2, d3] => { results := [.lit (.bool false)], args := [d1, d2, d3] }
  | _ => none }
def NumIntsWrongFalsely : Prop := numIntsRow.holds Try.pinned (OpenSpec.ofChange numIntsWrong)

/-- 'padlocklaw01.NumOrder': WHATEVER THE INPUT: true; the input reads as it did. -/
def numOrderSpec : ChangeSpec := { name := "numOrder", fn := fun _ => fun
  | [d1, d2] => { results := [.lit (.bool true)], args := [d1, d2] }
  | _ => none }
def numOrderRow : OpenClaim := { program := "ytkmehngemidiiaa", sum := "9cce06e51ff8cf06d58d2d066090cbf360f2f57b4ffd1f56932cafdef6a7e1b1", func := "padlock/padlocklaw01.NumOrder", spec := "numOrder", inPlace := ["math.Float64bits", "math.Float64frombits"], apart := false }
def NumOrderSaid : Prop := numOrderRow.holds Try.pinned (OpenSpec.ofChange numOrderSpec)

/-- ITS FALSE NEIGHBOUR: 'it returns false'. Refute it at one input. -/
def numOrderWrong : ChangeSpec := { name := "numOrder", fn := fun _ => fun
  | [d1, d2] => { results := [.lit (.bool false)], args := [d1, d2] }
  | _ => none }
def NumOrderWrongFalsely : Prop := numOrderRow.holds Try.pinned (OpenSpec.ofChange numOrderWrong)

/-- 'padlocklaw01.NumWhole': WHATEVER THE INPUT: true; the input reads as it did. -/
def numWholeSpec : ChangeSpec := { name := "numWhole", fn := fun _ => fun
  | [d1, d2] => { results := [.lit (.bool true)], args := [d1, d2] }
  | _ => none }
def numWholeRow : OpenClaim := { program := "ytkmehngemidiiaa", sum := "9cce06e51ff8cf06d58d2d066090cbf360f2f57b4ffd1f56932cafdef6a7e1b1", func := "padlock/padlocklaw01.NumWhole", spec := "numWhole", inPlace := ["math.Float64bits", "math.Float64frombits"], apart := false }
def NumWholeSaid : Prop := numWholeRow.holds Try.pinned (OpenSpec.ofChange numWholeSpec)

/-- ITS FALSE NEIGHBOUR: 'it returns false'. Refute it at one input. -/
def numWholeWrong : ChangeSpec := { name := "numWhole", fn := fun _ => fun
  | [d1, d2] => { results := [.lit (.bool false)], args := [d1, d2] }
  | _ => none }
def NumWholeWrongFalsely : Prop := numWholeRow.holds Try.pinned (OpenSpec.ofChange numWholeWrong)

/-- 'padlocklaw01.NumDivs': WHATEVER THE INPUT: true; the input reads as it did. -/
def numDivsSpec : ChangeSpec := { name := "numDivs", fn := fun _ => fun
  | [d1, d2] => { results := [.lit (.bool true)], args := [d1, d2] }
  | _ => none }
def numDivsRow : OpenClaim := { program := "ytkmehngemidiiaa", sum := "9cce06e51ff8cf06d58d2d066090cbf360f2f57b4ffd1f56932cafdef6a7e1b1", func := "padlock/padlocklaw01.NumDivs", spec := "numDivs", inPlace := ["math.Float64bits", "math.Float64frombits"], apart := false }
def NumDivsSaid : Prop := numDivsRow.holds Try.pinned (OpenSpec.ofChange numDivsSpec)

/-- ITS FALSE NEIGHBOUR: 'it returns false'. Refute it at one input. -/
def numDivsWrong : ChangeSpec := { name := "numDivs", fn := fun _ => fun
  | [d1, d2] => { results := [.lit (.bool false)], args := [d1, d2] }
  | _ => none }
def NumDivsWrongFalsely : Prop := numDivsRow.holds Try.pinned (OpenSpec.ofChange numDivsWrong)

/-- 'padlocklaw01.NumReals': WHATEVER THE INPUT: true; the input reads as it did. -/
def numRealsSpec : ChangeSpec := { name := "numReals", fn := fun _ => fun
  | [d1, d2, d3] => { results := [.lit (.bool true)], args := [d1, d2, d3] }
  | _ => none }
def numRealsRow : OpenClaim := { program := "ytkmehngemidiiaa", sum := "9cce06e51ff8cf06d58d2d066090cbf360f2f57b4ffd1f56932cafdef6a7e1b1", func := "padlock/padlocklaw01.NumReals", spec := "numReals", inPlace := ["math.Float64bits", "math.Float64frombits"], apart := false }
def NumRealsSaid : Prop := numRealsRow.holds Try.pinned (OpenSpec.ofChange numRealsSpec)

/-- ITS FALSE NEIGHBOUR: 'it returns false'. Refute it at one input. -/
def numRealsWrong : ChangeSpec := { name := "numReals", fn := fun _ => fun
  | [d1, d2, d3] => { results := [.lit (.bool false)], args := [d1, d2, d3] }
  | _ => none }
def NumRealsWrongFalsely : Prop := numRealsRow.holds Try.pinned (OpenSpec.ofChange numRealsWrong)

/-- 'padlocklaw01.NumOdd': WHATEVER THE INPUT: true; the input reads as it did. -/
def numOddSpec : ChangeSpec := { name := "numOdd", fn := fun _ => fun
  | [d1, d2, d3] => { results := [.lit (.bool true)], args := [d1, d2, d3] }
  | _ => none }
def numOddRow : OpenClaim := { program := "ytkmehngemidiiaa", sum := "9cce06e51ff8cf06d58d2d066090cbf360f2f57b4ffd1f56932cafdef6a7e1b1", func := "padlock/padlocklaw01.NumOdd", spec := "numOdd", inPlace := ["math.Float64bits", "math.Float64frombits"], apart := false }
def NumOddSaid : Prop := numOddRow.holds Try.pinned (OpenSpec.ofChange numOddSpec)

/-- ITS FALSE NEIGHBOUR: 'it returns false'. Refute it at one input. -/
def numOddWrong : ChangeSpec := { name := "numOdd", fn := fun _ => fun
  | [d1, d2, d3] => { results := [.lit (.bool false)], args := [d1, d2, d3] }
  | _ => none }
def NumOddWrongFalsely : Prop := numOddRow.holds Try.pinned (OpenSpec.ofChange numOddWrong)

/-- 'padlocklaw01.NumSigns': WHATEVER THE INPUT: true; the input reads as it did. -/
def numSignsSpec : ChangeSpec := { name := "numSigns", fn := fun _ => fun
  | [d1, d2] => { results := [.lit (.bool true)], args := [d1, d2] }
  | _ => none }
def numSignsRow : OpenClaim := { program := "ytkmehngemidiiaa", sum := "9cce06e51ff8cf06d58d2d066090cbf360f2f57b4ffd1f56932cafdef6a7e1b1", func := "padlock/padlocklaw01.NumSigns", spec := "numSigns", inPlace := ["math.Float64bits", "math.Float64frombits"], apart := false }
def NumSignsSaid : Prop := numSignsRow.holds Try.pinned (OpenSpec.ofChange numSignsSpec)

/-- ITS FALSE NEIGHBOUR: 'it returns false'. Refute it at one input. -/
def numSignsWrong : ChangeSpec := { name := "numSigns", fn := fun _ => fun
  | [d1, d2] => { results := [.lit (.bool false)], args := [d1, d2] }
  | _ => none }
def NumSignsWrongFalsely : Prop := numSignsRow.holds Try.pinned (OpenSpec.ofChange numSignsWrong)

/-- 'padlocklaw08.CalcJoins': WHATEVER THE INPUT: true; the input reads as it did. -/
def calcJoinsSpec : ChangeSpec := { name := "calcJoins", fn := fun _ => fun
  | [d1, d2, d3, d4] => { results := [.lit (.bool true)], args := [d1, d2, d3, d4] }
  | _ => none }
def calcJoinsRow : OpenClaim := { program := "ytkmehngemidiiaa", sum := "9cce06e51ff8cf06d58d2d066090cbf360f2f57b4ffd1f56932cafdef6a7e1b1", func := "padlock/padlocklaw08.CalcJoins", spec := "calcJoins", inPlace := ["math.Float64frombits", "math.Float64bits"], apart := false }
def CalcJoinsSaid : Prop := calcJoinsRow.holds Try.pinned (OpenSpec.ofChange calcJoinsSpec)

/-- ITS FALSE NEIGHBOUR: 'it returns false'. Refute it at one input. -/
def calcJoinsWrong : ChangeSpec := { name := "calcJoins", fn := fun _ => fun
  | [d1, d2, d3, d4] => { results := [.lit (.bool false)], args := [d1, d2, d3, d4] }
  | _ => none }
def CalcJoinsWrongFalsely : Prop := calcJoinsRow.holds Try.pinned (OpenSpec.ofChange calcJoinsWrong)

/-- 'padlocklaw08.CalcTraps': WHATEVER THE INPUT: true; the input reads as it did. -/
def calcTrapsSpec : ChangeSpec := { name := "calcTraps", fn := fun _ => fun
  | [d1, d2, d3] => { results := [.lit (.bool true)], args := [d1, d2, d3] }
  | _ => none }
def calcTrapsRow : OpenClaim := { program := "ytkmehngemidiiaa", sum := "9cce06e51ff8cf06d58d2d066090cbf360f2f57b4ffd1f56932cafdef6a7e1b1", func := "padlock/padlocklaw08.CalcTraps", spec := "calcTraps", inPlace := ["math.Float64frombits", "math.Float64bits"], apart := false }
def CalcTrapsSaid : Prop := calcTrapsRow.holds Try.pinned (OpenSpec.ofChange calcTrapsSpec)

/-- ITS FALSE NEIGHBOUR: 'it returns false'. Refute it at one input. -/
def calcTrapsWrong : ChangeSpec := { name := "calcTraps", fn := fun _ => fun
  | [d1, d2, d3] => { results := [.lit (.bool false)], args := [d1, d2, d3] }
  | _ => none }
def CalcTrapsWrongFalsely : Prop := calcTrapsRow.holds Try.pinned (OpenSpec.ofChange calcTrapsWrong)

/-- 'padlocklaw08.CalcLong': WHATEVER THE INPUT: true; the input reads as it did. -/
def calcLongSpec : ChangeSpec := { name := "calcLong", fn := fun _ => fun
  | [d1, d2] => { results := [.lit (.bool true)], args := [d1, d2] }
  | _ => none }
def calcLongRow : OpenClaim := { program := "ytkmehngemidiiaa", sum := "9cce06e51ff8cf06d58d2d066090cbf360f2f57b4ffd1f56932cafdef6a7e1b1", func := "padlock/padlocklaw08.CalcLong", spec := "calcLong", inPlace := ["math.Float64frombits", "math.Float64bits"], apart := false }
def CalcLongSaid : Prop := calcLongRow.holds Try.pinned (OpenSpec.ofChange calcLongSpec)

/-- ITS FALSE NEIGHBOUR: 'it returns false'. Refute it at one input. -/
def calcLongWrong : ChangeSpec := { name := "calcLong", fn := fun _ => fun
  | [d1, d2] => { results := [.lit (.bool false)], args := [d1, d2] }
  | _ => none }
def CalcLongWrongFalsely : Prop := calcLongRow.holds Try.pinned (OpenSpec.ofChange calcLongWrong)

/-- 'padlocklaw08.CalcIs': WHATEVER THE INPUT: true; the input reads as it did. -/
def calcIsSpec : ChangeSpec := { name := "calcIs", fn := fun _ => fun
  | [d1, d2, d3, d4] => { results := [.lit (.bool true)], args := [d1, d2, d3, d4] }
  | _ => none }
def calcIsRow : OpenClaim := { program := "ytkmehngemidiiaa", sum := "9cce06e51ff8cf06d58d2d066090cbf360f2f57b4ffd1f56932cafdef6a7e1b1", func := "padlock/padlocklaw08.CalcIs", spec := "calcIs", inPlace := ["math.Float64frombits", "math.Float64bits"], recurses := true, apart := false }
def CalcIsSaid : Prop := calcIsRow.holds Try.pinned (OpenSpec.ofChange calcIsSpec)

/-- ITS FALSE NEIGHBOUR: 'it returns false'. Refute it at one input. -/
def calcIsWrong : ChangeSpec := { name := "calcIs", fn := fun _ => fun
  | [d1, d2, d3, d4] => { results := [.lit (.bool false)], args := [d1, d2, d3, d4] }
  | _ => none }
def CalcIsWrongFalsely : Prop := calcIsRow.holds Try.pinned (OpenSpec.ofChange calcIsWrong)

/-- 'padlocklaw08.CalcHangs': WHATEVER THE INPUT: true; the input reads as it did. -/
def calcHangsSpec : ChangeSpec := { name := "calcHangs", fn := fun _ => fun
  | [d1, d2, d3, d4] => { results := [.lit (.bool true)], args := [d1, d2, d3, d4] }
  | _ => none }
def calcHangsRow : OpenClaim := { program := "ytkmehngemidiiaa", sum := "9cce06e51ff8cf06d58d2d066090cbf360f2f57b4ffd1f56932cafdef6a7e1b1", func := "padlock/padlocklaw08.CalcHangs", spec := "calcHangs", inPlace := ["math.Float64frombits", "math.Float64bits"], apart := false }
def CalcHangsSaid : Prop := calcHangsRow.holds Try.pinned (OpenSpec.ofChange calcHangsSpec)

/-- ITS FALSE NEIGHBOUR: 'it returns false'. Refute it at one input. -/
def calcHangsWrong : ChangeSpec := { name := "calcHangs", fn := fun _ => fun
  | [d1, d2, d3, d4] => { results := [.lit (.bool false)], args := [d1, d2, d3, d4] }
  | _ => none }
def CalcHangsWrongFalsely : Prop := calcHangsRow.holds Try.pinned (OpenSpec.ofChange calcHangsWrong)

/- THE SECOND FORM. 'bulk': how many values and letters a reading holds, each counted each time it is reached (what is shared counts as often as it is met; a slice's spare places count too). A statement '..UptoSaid' is the law's where the arguments, and the package variables that the reading takes, are together of bulk at most 1048576: NARROWER than '..Said'. Prove '..Said' where nothing that the law and all that it calls make is longer than what came in: it says more and counts as full. Else prove '..UptoSaid'. A law counts once. -/
mutual
def uptoBulk {H : Type} : DataW H → Nat
  | .lit (.string bytes) => bytes.length + 1
  | .lit _ => 1
  | .nil => 1
  | .ptr d => uptoBulk d + 1
  | .slice elems spare => uptoBulkAll elems + uptoBulkAll spare + 1
  | .agg parts => uptoBulkAll parts + 1
  | .iface _ d => uptoBulk d + 1
  | .map entries => uptoBulkEntries entries + 1
  | .held _ => 1
def uptoBulkAll {H : Type} : List (DataW H) → Nat
  | [] => 0
  | d :: r => uptoBulk d + uptoBulkAll r
def uptoBulkEntries {H : Type} : List (Lit × DataW H) → Nat
  | [] => 0
  | x :: r => uptoBulkEntry x + uptoBulkEntries r
def uptoBulkEntry {H : Type} : Lit × DataW H → Nat
  | (.string bytes, d) => bytes.length + uptoBulk d + 1
  | (_, d) => uptoBulk d + 1
 end
def uptoSmall : (H : Type) → List (DataW H) → Bool := fun _ ds => decide (uptoBulkAll ds ≤ 1048576)
def OpenSpec.upto (s : _root_.Go.ChangeSpec) : _root_.Go.OpenSpec := { _root_.Go.OpenSpec.ofChange s with cond := some uptoSmall }

/-- 'padlocklaw01.NumInts', WHERE WHAT IT READS IS OF BULK AT MOST 1048576: true; the input reads as it did. -/
def numIntsUptoRow : OpenClaim := { program := "ytkmehngemidiiaa", sum := "9cce06e51ff8cf06d58d2d066090cbf360f2f57b4ffd1f56932cafdef6a7e1b1", func := "padlock/padlocklaw01.NumInts", spec := "numInts", inPlace := ["math.Float64bits", "math.Float64frombits"], apart := false, narrowed := true }
def NumIntsUptoSaid : Prop := numIntsUptoRow.holds Try.pinned (OpenSpec.upto numIntsSpec)

/-- 'padlocklaw01.NumOrder', WHERE WHAT IT READS IS OF BULK AT MOST 1048576: true; the input reads as it did. -/
def numOrderUptoRow : OpenClaim := { program := "ytkmehngemidiiaa", sum := "9cce06e51ff8cf06d58d2d066090cbf360f2f57b4ffd1f56932cafdef6a7e1b1", func := "padlock/padlocklaw01.NumOrder", spec := "numOrder", inPlace := ["math.Float64bits", "math.Float64frombits"], apart := false, narrowed := true }
def NumOrderUptoSaid : Prop := numOrderUptoRow.holds Try.pinned (OpenSpec.upto numOrderSpec)

/-- 'padlocklaw01.NumWhole', WHERE WHAT IT READS IS OF BULK AT MOST 1048576: true; the input reads as it did. -/
def numWholeUptoRow : OpenClaim := { program := "ytkmehngemidiiaa", sum := "9cce06e51ff8cf06d58d2d066090cbf360f2f57b4ffd1f56932cafdef6a7e1b1", func := "padlock/padlocklaw01.NumWhole", spec := "numWhole", inPlace := ["math.Float64bits", "math.Float64frombits"], apart := false, narrowed := true }
def NumWholeUptoSaid : Prop := numWholeUptoRow.holds Try.pinned (OpenSpec.upto numWholeSpec)

/-- 'padlocklaw01.NumDivs', WHERE WHAT IT READS IS OF BULK AT MOST 1048576: true; the input reads as it did. -/
def numDivsUptoRow : OpenClaim := { program := "ytkmehngemidiiaa", sum := "9cce06e51ff8cf06d58d2d066090cbf360f2f57b4ffd1f56932cafdef6a7e1b1", func := "padlock/padlocklaw01.NumDivs", spec := "numDivs", inPlace := ["math.Float64bits", "math.Float64frombits"], apart := false, narrowed := true }
def NumDivsUptoSaid : Prop := numDivsUptoRow.holds Try.pinned (OpenSpec.upto numDivsSpec)

/-- 'padlocklaw01.NumReals', WHERE WHAT IT READS IS OF BULK AT MOST 1048576: true; the input reads as it did. -/
def numRealsUptoRow : OpenClaim := { program := "ytkmehngemidiiaa", sum := "9cce06e51ff8cf06d58d2d066090cbf360f2f57b4ffd1f56932cafdef6a7e1b1", func := "padlock/padlocklaw01.NumReals", spec := "numReals", inPlace := ["math.Float64bits", "math.Float64frombits"], apart := false, narrowed := true }
def NumRealsUptoSaid : Prop := numRealsUptoRow.holds Try.pinned (OpenSpec.upto numRealsSpec)

/-- 'padlocklaw01.NumOdd', WHERE WHAT IT READS IS OF BULK AT MOST 1048576: true; the input reads as it did. -/
def numOddUptoRow : OpenClaim := { program := "ytkmehngemidiiaa", sum := "9cce06e51ff8cf06d58d2d066090cbf360f2f57b4ffd1f56932cafdef6a7e1b1", func := "padlock/padlocklaw01.NumOdd", spec := "numOdd", inPlace := ["math.Float64bits", "math.Float64frombits"], apart := false, narrowed := true }
def NumOddUptoSaid : Prop := numOddUptoRow.holds Try.pinned (OpenSpec.upto numOddSpec)

/-- 'padlocklaw01.NumSigns', WHERE WHAT IT READS IS OF BULK AT MOST 1048576: true; the input reads as it did. -/
def numSignsUptoRow : OpenClaim := { program := "ytkmehngemidiiaa", sum := "9cce06e51ff8cf06d58d2d066090cbf360f2f57b4ffd1f56932cafdef6a7e1b1", func := "padlock/padlocklaw01.NumSigns", spec := "numSigns", inPlace := ["math.Float64bits", "math.Float64frombits"], apart := false, narrowed := true }
def NumSignsUptoSaid : Prop := numSignsUptoRow.holds Try.pinned (OpenSpec.upto numSignsSpec)

/-- 'padlocklaw08.CalcJoins', WHERE WHAT IT READS IS OF BULK AT MOST 1048576: true; the input reads as it did. -/
def calcJoinsUptoRow : OpenClaim := { program := "ytkmehngemidiiaa", sum := "9cce06e51ff8cf06d58d2d066090cbf360f2f57b4ffd1f56932cafdef6a7e1b1", func := "padlock/padlocklaw08.CalcJoins", spec := "calcJoins", inPlace := ["math.Float64frombits", "math.Float64bits"], apart := false, narrowed := true }
def CalcJoinsUptoSaid : Prop := calcJoinsUptoRow.holds Try.pinned (OpenSpec.upto calcJoinsSpec)

/-- 'padlocklaw08.CalcTraps', WHERE WHAT IT READS IS OF BULK AT MOST 1048576: true; the input reads as it did. -/
def calcTrapsUptoRow : OpenClaim := { program := "ytkmehngemidiiaa", sum := "9cce06e51ff8cf06d58d2d066090cbf360f2f57b4ffd1f56932cafdef6a7e1b1", func := "padlock/padlocklaw08.CalcTraps", spec := "calcTraps", inPlace := ["math.Float64frombits", "math.Float64bits"], apart := false, narrowed := true }
def CalcTrapsUptoSaid : Prop := calcTrapsUptoRow.holds Try.pinned (OpenSpec.upto calcTrapsSpec)

/-- 'padlocklaw08.CalcLong', WHERE WHAT IT READS IS OF BULK AT MOST 1048576: true; the input reads as it did. -/
def calcLongUptoRow : OpenClaim := { program := "ytkmehngemidiiaa", sum := "9cce06e51ff8cf06d58d2d066090cbf360f2f57b4ffd1f56932cafdef6a7e1b1", func := "padlock/padlocklaw08.CalcLong", spec := "calcLong", inPlace := ["math.Float64frombits", "math.Float64bits"], apart := false, narrowed := true }
def CalcLongUptoSaid : Prop := calcLongUptoRow.holds Try.pinned (OpenSpec.upto calcLongSpec)

/-- 'padlocklaw08.CalcIs', WHERE WHAT IT READS IS OF BULK AT MOST 1048576: true; the input reads as it did. -/
def calcIsUptoRow : OpenClaim := { program := "ytkmehngemidiiaa", sum := "9cce06e51ff8cf06d58d2d066090cbf360f2f57b4ffd1f56932cafdef6a7e1b1", func := "padlock/padlocklaw08.CalcIs", spec := "calcIs", inPlace := ["math.Float64frombits", "math.Float64bits"], recurses := true, apart := false, narrowed := true }
def CalcIsUptoSaid : Prop := calcIsUptoRow.holds Try.pinned (OpenSpec.upto calcIsSpec)

/-- 'padlocklaw08.CalcHangs', WHERE WHAT IT READS IS OF BULK AT MOST 1048576: true; the input reads as it did. -/
def calcHangsUptoRow : OpenClaim := { program := "ytkmehngemidiiaa", sum := "9cce06e51ff8cf06d58d2d066090cbf360f2f57b4ffd1f56932cafdef6a7e1b1", func := "padlock/padlocklaw08.CalcHangs", spec := "calcHangs", inPlace := ["math.Float64frombits", "math.Float64bits"], apart := false, narrowed := true }
def CalcHangsUptoSaid : Prop := calcHangsUptoRow.holds Try.pinned (OpenSpec.upto calcHangsSpec)

end Rows
end Go.Proofs.Ytkmehngemidiiaa
