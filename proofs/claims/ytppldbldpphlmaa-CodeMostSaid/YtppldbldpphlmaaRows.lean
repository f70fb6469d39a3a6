/-
  No cell of these rows narrows 'for every input' (looked for: loops, veiled, ifaces, maps, wideKeys, modest, calm, conditions, laid).
  DERIVED. THE GIVEN ROWS OF THIS SEAT. 9 by the template 'for every input the law returns true; each argument reads behind the call as it read before'; 0 by the template 'total and deterministic' (their statements: YtppldbldpphlmaaTotals.lean).
  GIVEN WITH THE SEED: the statements are not yours to turn. If you find one false, say at which input.
  Laid BY PROGRAM, IN A SANDBOX (cutbox-rows.mjs): the forced cells as the released guide's own fill.sh prints them over the translation 9bc45bd0ba74f0a6… (all of the seat's roots in one cut). By AI agents, Wed Nov 11 2026. No macro, syntax, notation, axiom, sorry.
-/
import Derived.Test.YtppldbldpphlmaaChecked
import GoSem.Claim
import GoSem.ClaimJoined
import GoSem.ClaimMapViews
import Derived.JoinedTies
import Derived.KernelRfl
namespace Go.Proofs.Ytppldbldpphlmaa
/- THE CELL 'sum', in the pinned program and in every row, IS THE sha256 OF THE DUMP (.gsa) THAT YtppldbldpphlmaaProg.lean LOADS. Nothing in Lean hashes anything: it is a label: what it is worth is what the hold of that sum in a sandbox is worth. -/
noncomputable def Try.pinned : Pinned := { name := "ytppldbldpphlmaa", sum := "9bc45bd0ba74f0a625dfdb125990efef49f632ca9a794f0306304696001c9035", checked := Try.checked }
namespace Rows
def none {H : Type} : Left H := { results := [], args := [] }

/-- 'padlocklaw17.HeapDoes': WHATEVER THE INPUT: true; the input reads as it did. -/
def heapDoesSpec : ChangeSpec := { name := "heapDoes", fn := fun _ => fun
  | [d1, d2] => { results := [.lit (.bool true)], args := [d1, d2] }
  | _ => none }
def heapDoesRow : OpenClaim := { program := "ytppldbldpphlmaa", sum := "9bc45bd0ba74f0a625dfdb125990efef49f632ca9a794f0306304696001c9035", func := "padlock/padlocklaw17.HeapDoes", spec := "heapDoes", plainKeys := false, apart := false }
def HeapDoesSaid : Prop := heapDoesRow.holds Try.pinned (OpenSpec.ofChange heapDoesSpec)

/-- ITS FALSE NEIGHBOUR: 'it returns false'. Refute it at one input. -/
def heapDoesWrong : ChangeSpec := { name := "heapDoes", fn := fun _ => fun
  | [d1, d2] => { results := [.lit (.bool false)], args := [d1, d2] }
  | _ => none }
def HeapDoesWrongFalsely : Prop := heapDoesRow.holds Try.pinned (OpenSpec.ofChange heapDoesWrong)

/-- 'padlocklaw09.CodeIs': WHATEVER THE INPUT: true; the input reads as it did. -/
def codeIsSpec : ChangeSpec := { name := "codeIs", fn := fun _ => fun
  | [d] => { results := [.lit (.bool true)], args := [d] }
  | _ => none }
def codeIsRow : OpenClaim := { program := "ytppldbldpphlmaa", sum := "9bc45bd0ba74f0a625dfdb125990efef49f632ca9a794f0306304696001c9035", func := "padlock/padlocklaw09.CodeIs", spec := "codeIs", unfollowed := true, recurses := true, plainKeys := false, apart := false }
def CodeIsSaid : Prop := codeIsRow.holds Try.pinned (OpenSpec.ofChange codeIsSpec)

/-- ITS FALSE NEIGHBOUR: 'it returns false'. Refute it at one input. -/
def codeIsWrong : ChangeSpec := { name := "codeIs", fn := fun _ => fun
  | [d] => { results := [.lit (.bool false)], args := [d] }
  | _ => none }
def CodeIsWrongFalsely : Prop := codeIsRow.holds Try.pinned (OpenSpec.ofChange codeIsWrong)

/-- 'padlocklaw09.CodeTells': WHATEVER THE INPUT: true; the input reads as it did. -/
def codeTellsSpec : ChangeSpec := { name := "codeTells", fn := fun _ => fun
  | [d1, d2, d3, d4] => { results := [.lit (.bool true)], args := [d1, d2, d3, d4] }
  | _ => none }
def codeTellsRow : OpenClaim := { program := "ytppldbldpphlmaa", sum := "9bc45bd0ba74f0a625dfdb125990efef49f632ca9a794f0306304696001c9035", func := "padlock/padlocklaw09.CodeTells", spec := "codeTells", unfollowed := true, recurses := true, plainKeys := false, apart := false }
def CodeTellsSaid : Prop := codeTellsRow.holds Try.pinned (OpenSpec.ofChange codeTellsSpec)

/-- ITS FALSE NEIGHBOUR: 'it returns false'. Refute it at one input. -/
def codeTellsWrong : ChangeSpec := { name := "codeTells", fn := fun _ => fun
  | [d1, d2, d3, d4] => { results := [.lit (.bool false)], args := [d1, d2, d3, d4] }
  | _ => none }
def CodeTellsWrongFalsely : Prop := codeTellsRow.holds Try.pinned (OpenSpec.ofChange codeTellsWrong)

/-- 'padlocklaw09.CodeGuards': WHATEVER THE INPUT: true; the input reads as it did. -/
def codeGuardsSpec : ChangeSpec := { name := "codeGuards", fn := fun _ => fun
  | [d] => { results := [.lit (.bool true)], args := [d] }
  | _ => none }
def codeGuardsRow : OpenClaim := { program := "ytppldbldpphlmaa", sum := "9bc45bd0ba74f0a625dfdb125990efef49f632ca9a794f0306304696001c9035", func := "padlock/padlocklaw09.CodeGuards", spec := "codeGuards", unfollowed := true, recurses := true, plainKeys := false, apart := false }
def CodeGuardsSaid : Prop := codeGuardsRow.holds Try.pinned (OpenSpec.ofChange codeGuardsSpec)

/-- ITS FALSE NEIGHBOUR: 'it returns false'. Refute it at one input. -/
def codeGuardsWrong : ChangeSpec := { name := "codeGuards", fn := fun _ => fun
  | [d] => { results := [.lit (.bool false)], args := [d] }
  | _ => none }
def CodeGuardsWrongFalsely : Prop := codeGuardsRow.holds Try.pinned (OpenSpec.ofChange codeGuardsWrong)

/-- 'padlocklaw09.CodeMost': WHATEVER THE INPUT: true; the input reads as it did. -/
def codeMostSpec : ChangeSpec := { name := "codeMost", fn := fun _ => fun
  | [d1, d2, d3] => { results := [.lit (.bool true)], args := [d1, d2, d3] }
  | _ => none }
def codeMostRow : OpenClaim := { program := "ytppldbldpphlmaa", sum := "9bc45bd0ba74f0a625dfdb125990efef49f632ca9a794f0306304696001c9035", func := "padlock/padlocklaw09.CodeMost", spec := "codeMost", unfollowed := true, recurses := true, plainKeys := false, apart := false }
def CodeMostSaid : Prop := codeMostRow.holds Try.pinned (OpenSpec.ofChange codeMostSpec)

/-- ITS FALSE NEIGHBOUR: 'it returns false'. Refute it at one input. -/
def codeMostWrong : ChangeSpec := { name := "codeMost", fn := fun _ => fun
  | [d1, d2, d3] => { results := [.lit (.bool false)], args := [d1, d2, d3] }
  | _ => none }
def CodeMostWrongFalsely : Prop := codeMostRow.holds Try.pinned (OpenSpec.ofChange codeMostWrong)

/-- 'padlocklaw13.PathIs': WHATEVER THE INPUT: true; the input reads as it did. -/
def pathIsSpec : ChangeSpec := { name := "pathIs", fn := fun _ => fun
  | [d1, d2] => { results := [.lit (.bool true)], args := [d1, d2] }
  | _ => none }
def pathIsRow : OpenClaim := { program := "ytppldbldpphlmaa", sum := "9bc45bd0ba74f0a625dfdb125990efef49f632ca9a794f0306304696001c9035", func := "padlock/padlocklaw13.PathIs", spec := "pathIs", unfollowed := true, recurses := true, plainKeys := false, apart := false }
def PathIsSaid : Prop := pathIsRow.holds Try.pinned (OpenSpec.ofChange pathIsSpec)

/-- ITS FALSE NEIGHBOUR: 'it returns false'. Refute it at one input. -/
def pathIsWrong : ChangeSpec := { name := "pathIs", fn := fun _ => fun
  | [d1, d2] => { results := [.lit (.bool false)], args := [d1, d2] }
  | _ => none }
def PathIsWrongFalsely : Prop := pathIsRow.holds Try.pinned (OpenSpec.ofChange pathIsWrong)

/-- 'padlocklaw13.PathKeeps': WHATEVER THE INPUT: true; the input reads as it did. -/
def pathKeepsSpec : ChangeSpec := { name := "pathKeeps", fn := fun _ => fun
  | [d1, d2] => { results := [.lit (.bool true)], args := [d1, d2] }
  | _ => none }
def pathKeepsRow : OpenClaim := { program := "ytppldbldpphlmaa", sum := "9bc45bd0ba74f0a625dfdb125990efef49f632ca9a794f0306304696001c9035", func := "padlock/padlocklaw13.PathKeeps", spec := "pathKeeps", unfollowed := true, recurses := true, plainKeys := false, apart := false }
def PathKeepsSaid : Prop := pathKeepsRow.holds Try.pinned (OpenSpec.ofChange pathKeepsSpec)

/-- ITS FALSE NEIGHBOUR: 'it returns false'. Refute it at one input. -/
def pathKeepsWrong : ChangeSpec := { name := "pathKeeps", fn := fun _ => fun
  | [d1, d2] => { results := [.lit (.bool false)], args := [d1, d2] }
  | _ => none }
def PathKeepsWrongFalsely : Prop := pathKeepsRow.holds Try.pinned (OpenSpec.ofChange pathKeepsWrong)

/-- 'padlocklaw13.PathSame': WHATEVER THE INPUT: true; the input reads as it did. -/
def pathSameSpec : ChangeSpec := { name := "pathSame", fn := fun _ => fun
  | [d1, d2] => { results := [.lit (.bool true)], args := [d1, d2] }
  | _ => none }
def pathSameRow : OpenClaim := { program := "ytppldbldpphlmaa", sum := "9bc45bd0ba74f0a625dfdb125990efef49f632ca9a794f0306304696001c9035", func := "padlock/padlocklaw13.PathSame", spec := "pathSame", unfollowed := true, recurses := true, plainKeys := false, apart := false }
def PathSameSaid : Prop := pathSameRow.holds Try.pinned (OpenSpec.ofChange pathSameSpec)

/-- ITS FALSE NEIGHBOUR: 'it returns false'. Refute it at one input. -/
def pathSameWrong : ChangeSpec := { name := "pathSame", fn := fun _ => fun
  | [d1, d2] => { results := [.lit (.bool false)], args := [d1, d2] }
  | _ => none }
def PathSameWrongFalsely : Prop := pathSameRow.holds Try.pinned (OpenSpec.ofChange pathSameWrong)

/-- 'padlocklaw13.PathSlots': WHATEVER THE INPUT: true; the input reads as it did. -/
def pathSlotsSpec : ChangeSpec := { name := "pathSlots", fn := fun _ => fun
  | [d1, d2] => { results := [.lit (.bool true)], args := [d1, d2] }
  | _ => none }
def pathSlotsRow : OpenClaim := { program := "ytppldbldpphlmaa", sum := "9bc45bd0ba74f0a625dfdb125990efef49f632ca9a794f0306304696001c9035", func := "padlock/padlocklaw13.PathSlots", spec := "pathSlots", unfollowed := true, recurses := true, plainKeys := false, apart := false }
def PathSlotsSaid : Prop := pathSlotsRow.holds Try.pinned (OpenSpec.ofChange pathSlotsSpec)

/-- ITS FALSE NEIGHBOUR: 'it returns false'. Refute it at one input. -/
def pathSlotsWrong : ChangeSpec := { name := "pathSlots", fn := fun _ => fun
  | [d1, d2] => { results := [.lit (.bool false)], args := [d1, d2] }
  | _ => none }
def PathSlotsWrongFalsely : Prop := pathSlotsRow.holds Try.pinned (OpenSpec.ofChange pathSlotsWrong)

/- THE SECOND FORM. 'bulk': how many values and letters a reading holds, each counted each time it is reached (what is shared counts as often as it is met; a slice's spare places count too). A statement '..UptoSaid' is the law's where the arguments, and the package variables that the reading takes, are together of bulk at most 1048576: NARROWER than '..Said'. Prove '..Said' where nothing that the law and all that it calls make is longer than what came in: it says more and counts as full. Else prove '..UptoSaid'. A law counts once. -/
mutual
def uptoBulk {H : Type} : DataW H → Nat
  | .lit (.string bytes) => bytes.length + 1
  | .lit _ => 1
  | .nil => 1
  | .ptr d => uptoBulk d + 1
  | .slice elems spare => uptoBulkAll elems + uptoBulkAll spare + 1
  | .agg parts => uptoBulkAll parts + 1
  | .iface _ d => uptoBulk d + 1
  | .map entries => uptoBulkEntries entries + 1
  | .held _ => 1
def uptoBulkAll {H : Type} : List (DataW H) → Nat
  | [] => 0
  | d :: r => uptoBulk d + uptoBulkAll r
def uptoBulkEntries {H : Type} : List (Lit × DataW H) → Nat
  | [] => 0
  | x :: r => uptoBulkEntry x + uptoBulkEntries r
def uptoBulkEntry {H : Type} : Lit × DataW H → Nat
  | (.string bytes, d) => bytes.length + uptoBulk d + 1
  | (_, d) => uptoBulk d + 1
 end
def uptoSmall : (H : Type) → List (DataW H) → Bool := fun _ ds => decide (uptoBulkAll ds ≤ 1048576)
def OpenSpec.upto (s : _root_.Go.ChangeSpec) : _root_.Go.OpenSpec := { _root_.Go.OpenSpec.ofChange s with cond := some uptoSmall }

/-- 'padlocklaw17.HeapDoes', WHERE WHAT IT READS IS OF BULK AT MOST 1048576: true; the input reads as it did. -/
def heapDoesUptoRow : OpenClaim := { program := "ytppldbldpphlmaa", sum := "9bc45bd0ba74f0a625dfdb125990efef49f632ca9a794f0306304696001c9035", func := "padlock/padlocklaw17.HeapDoes", spec := "heapDoes", plainKeys := false, apart := false, narrowed := true }
def HeapDoesUptoSaid : Prop := heapDoesUptoRow.holds Try.pinned (OpenSpec.upto heapDoesSpec)

/-- 'padlocklaw09.CodeIs', WHERE WHAT IT READS IS OF BULK AT MOST 1048576: true; the input reads as it did. -/
def codeIsUptoRow : OpenClaim := { program := "ytppldbldpphlmaa", sum := "9bc45bd0ba74f0a625dfdb125990efef49f632ca9a794f0306304696001c9035", func := "padlock/padlocklaw09.CodeIs", spec := "codeIs", unfollowed := true, recurses := true, plainKeys := false, apart := false, narrowed := true }
def CodeIsUptoSaid : Prop := codeIsUptoRow.holds Try.pinned (OpenSpec.upto codeIsSpec)

/-- 'padlocklaw09.CodeTells', WHERE WHAT IT READS IS OF BULK AT MOST 1048576: true; the input reads as it did. -/
def codeTellsUptoRow : OpenClaim := { program := "ytppldbldpphlmaa", sum := "9bc45bd0ba74f0a625dfdb125990efef49f632ca9a794f0306304696001c9035", func := "padlock/padlocklaw09.CodeTells", spec := "codeTells", unfollowed := true, recurses := true, plainKeys := false, apart := false, narrowed := true }
def CodeTellsUptoSaid : Prop := codeTellsUptoRow.holds Try.pinned (OpenSpec.upto codeTellsSpec)

/-- 'padlocklaw09.CodeGuards', WHERE WHAT IT READS IS OF BULK AT MOST 1048576: true; the input reads as it did. -/
def codeGuardsUptoRow : OpenClaim := { program := "ytppldbldpphlmaa", sum := "9bc45bd0ba74f0a625dfdb125990efef49f632ca9a794f0306304696001c9035", func := "padlock/padlocklaw09.CodeGuards", spec := "codeGuards", unfollowed := true, recurses := true, plainKeys := false, apart := false, narrowed := true }
def CodeGuardsUptoSaid : Prop := codeGuardsUptoRow.holds Try.pinned (OpenSpec.upto codeGuardsSpec)

/-- 'padlocklaw09.CodeMost', WHERE WHAT IT READS IS OF BULK AT MOST 1048576: true; the input reads as it did. -/
def codeMostUptoRow : OpenClaim := { program := "ytppldbldpphlmaa", sum := "9bc45bd0ba74f0a625dfdb125990efef49f632ca9a794f0306304696001c9035", func := "padlock/padlocklaw09.CodeMost", spec := "codeMost", unfollowed := true, recurses := true, plainKeys := false, apart := false, narrowed := true }
def CodeMostUptoSaid : Prop := codeMostUptoRow.holds Try.pinned (OpenSpec.upto codeMostSpec)

/-- 'padlocklaw13.PathIs', WHERE WHAT IT READS IS OF BULK AT MOST 1048576: true; the input reads as it did. -/
def pathIsUptoRow : OpenClaim := { program := "ytppldbldpphlmaa", sum := "9bc45bd0ba74f0a625dfdb125990efef49f632ca9a794f0306304696001c9035", func := "padlock/padlocklaw13.PathIs", spec := "pathIs", unfollowed := true, recurses := true, plainKeys := false, apart := false, narrowed := true }
def PathIsUptoSaid : Prop := pathIsUptoRow.holds Try.pinned (OpenSpec.upto pathIsSpec)

/-- 'padlocklaw13.PathKeeps', WHERE WHAT IT READS IS OF BULK AT MOST 1048576: true; the input reads as it did. -/
def pathKeepsUptoRow : OpenClaim := { program := "ytppldbldpphlmaa", sum := "9bc45bd0ba74f0a625dfdb125990efef49f632ca9a794f0306304696001c9035", func := "padlock/padlocklaw13.PathKeeps", spec := "pathKeeps", unfollowed := true, recurses := true, plainKeys := false, apart := false, narrowed := true }
def PathKeepsUptoSaid : Prop := pathKeepsUptoRow.holds Try.pinned (OpenSpec.upto pathKeepsSpec)

/-- 'padlocklaw13.PathSame', WHERE WHAT IT READS IS OF BULK AT MOST 1048576: true; the input reads as it did. -/
def pathSameUptoRow : OpenClaim := { program := "ytppldbldpphlmaa", sum := "9bc45bd0ba74f0a625dfdb125990efef49f632ca9a794f0306304696001c9035", func := "padlock/padlocklaw13.PathSame", spec := "pathSame", unfollowed := true, recurses := true, plainKeys := false, apart := false, narrowed := true }
def PathSameUptoSaid : Prop := pathSameUptoRow.holds Try.pinned (OpenSpec.upto pathSameSpec)

/-- 'padlocklaw13.PathSlots', WHERE WHAT IT READS IS OF BULK AT MOST 1048576: true; the input reads as it did. -/
def pathSlotsUptoRow : OpenClaim := { program := "ytppldbldpphlmaa", sum := "9bc45bd0ba74f0a625dfdb125990efef49f632ca9a794f0306304696001c9035", func := "padlock/padlocklaw13.PathSlots", spec := "pathSlots", unfollowed := true, recurses := true, plainKeys := false, apart := false, narrowed := true }
def PathSlotsUptoSaid : Prop := pathSlotsUptoRow.holds Try.pinned (OpenSpec.upto pathSlotsSpec)

end Rows
end Go.Proofs.Ytppldbldpphlmaa
