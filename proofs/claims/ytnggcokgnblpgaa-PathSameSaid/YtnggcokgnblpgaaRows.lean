/-
  No cell of these rows narrows 'for every input' (looked for: loops, veiled, ifaces, maps, wideKeys, modest, calm, conditions, laid).
  DERIVED. THE GIVEN ROWS OF THIS SEAT. 4 by the template 'for every input the law returns true; each argument reads behind the call as it read before'; 0 by the template 'total and deterministic' (their statements: YtnggcokgnblpgaaTotals.lean).
  GIVEN WITH THE SEED: the statements are not yours to turn. If you find one false, say at which input.
  Laid BY PROGRAM, IN A SANDBOX (cutbox-rows.mjs): the forced cells as the released guide's own fill.sh prints them over the translation 0c994bed797e61c9… (all of the seat's roots in one cut). By AI agents, Wed Nov 11 2026. No macro, syntax, notation, axiom, sorry.
-/
import Derived.Test.YtnggcokgnblpgaaChecked
import GoSem.Claim
import GoSem.ClaimJoined
import GoSem.ClaimMapViews
import Derived.JoinedTies
import Derived.KernelRfl
namespace Go.Proofs.Ytnggcokgnblpgaa
/- THE CELL 'sum', in the pinned program and in every row, IS THE sha256 OF THE DUMP (.gsa) THAT YtnggcokgnblpgaaProg.lean LOADS. Nothing in Lean hashes anything: it is a label: what it is worth is what the hold of that sum in a sandbox is worth. -/
noncomputable def Try.pinned : Pinned := { name := "ytnggcokgnblpgaa", sum := "0c994bed797e61c9128a6b1cf4611fbb45c77af00fb4c68956c620b95be87386", checked := Try.checked }
namespace Rows
def none {H : Type} : Left H := { results := [], args := [] }

/-- 'padlocklaw13.PathIs': WHATEVER THE INPUT: true; the input reads as it did. -/
def pathIsSpec : ChangeSpec := { name := "pathIs", fn := fun _ => fun
  | [d1, d2] => { results := [.lit (.bool true)], args := [d1, d2] }
  | _ => none }
def pathIsRow : OpenClaim := { program := "ytnggcokgnblpgaa", sum := "0c994bed797e61c9128a6b1cf4611fbb45c77af00fb4c68956c620b95be87386", func := "padlock/padlocklaw13.PathIs", spec := "pathIs", unfollowed := true, recurses := true, plainKeys := false, apart := false }
def PathIsSaid : Prop := pathIsRow.holds Try.pinned (OpenSpec.ofChange pathIsSpec)

/-- ITS FALSE NEIGHBOUR: 'it returns false'. Refute it at one input. -/
def pathIsWrong : ChangeSpec := { name := "pathIs", fn := fun _ => fun
  | [d1, d2] => { results := [.lit (.bool false)], args := [d1, d2] }
  | _ => none }
def PathIsWrongFalsely : Prop := pathIsRow.holds Try.pinned (OpenSpec.ofChange pathIsWrong)

/-- 'padlocklaw13.PathKeeps': WHATEVER THE INPUT: true; the input reads as it did. -/
def pathKeepsSpec : ChangeSpec := { name := "pathKeeps", fn := fun _ => fun
  | [d1, d2] => { results := [.lit (.bool true)], args := [d1, d2] }
  | _ => none }
def pathKeepsRow : OpenClaim := { program := "ytnggcokgnblpgaa", sum := "0c994bed797e61c9128a6b1cf4611fbb45c77af00fb4c68956c620b95be87386", func := "padlock/padlocklaw13.PathKeeps", spec := "pathKeeps", unfollowed := true, recurses := true, plainKeys := false, apart := false }
def PathKeepsSaid : Prop := pathKeepsRow.holds Try.pinned (OpenSpec.ofChange pathKeepsSpec)

/-- ITS FALSE NEIGHBOUR: 'it returns false'. Refute it at one input. -/
def pathKeepsWrong : ChangeSpec := { name := "pathKeeps", fn := fun _ => fun
  | [d1, d2] => { results := [.lit (.bool false)], args := [d1, d2] }
  | _ => none }
def PathKeepsWrongFalsely : Prop := pathKeepsRow.holds Try.pinned (OpenSpec.ofChange pathKeepsWrong)

/-- 'padlocklaw13.PathSame': WHATEVER THE INPUT: true; the input reads as it did. -/
def pathSameSpec : ChangeSpec := { name := "pathSame", fn := fun _ => fun
  | [d1, d2] => { results := [.lit (.bool true)], args := [d1, d2] }
  | _ => none }
def pathSameRow : OpenClaim := { program := "ytnggcokgnblpgaa", sum := "0c994bed797e61c9128a6b1cf4611fbb45c77af00fb4c68956c620b95be87386", func := "padlock/padlocklaw13.PathSame", spec := "pathSame", unfollowed := true, recurses := true, plainKeys := false, apart := false }
def PathSameSaid : Prop := pathSameRow.holds Try.pinned (OpenSpec.ofChange pathSameSpec)

/-- ITS FALSE NEIGHBOUR: 'it returns false'. Refute it at one input. -/
def pathSameWrong : ChangeSpec := { name := "pathSame", fn := fun _ => fun
  | [d1, d2] => { results := [.lit (.bool false)], args := [d1, d2] }
  | _ => none }
def PathSameWrongFalsely : Prop := pathSameRow.holds Try.pinned (OpenSpec.ofChange pathSameWrong)

/-- 'padlocklaw13.PathSlots': WHATEVER THE INPUT: true; the input reads as it did. -/
def pathSlotsSpec : ChangeSpec := { name := "pathSlots", fn := fun _ => fun
  | [d1, d2] => { results := [.lit (.bool true)], args := [d1, d2] }
  | _ => none }
def pathSlotsRow : OpenClaim := { program := "ytnggcokgnblpgaa", sum := "0c994bed797e61c9128a6b1cf4611fbb45c77af00fb4c68956c620b95be87386", func := "padlock/padlocklaw13.PathSlots", spec := "pathSlots", unfollowed := true, recurses := true, plainKeys := false, apart := false }
def PathSlotsSaid : Prop := pathSlotsRow.holds Try.pinned (OpenSpec.ofChange pathSlotsSpec)

/-- ITS FALSE NEIGHBOUR: 'it returns false'. Refute it at one input. -/
def pathSlotsWrong : ChangeSpec := { name := "pathSlots", fn := fun _ => fun
  | [d1, d2] => { results := [.lit (.bool false)], args := [d1, d2] }
  | _ => none }
def PathSlotsWrongFalsely : Prop := pathSlotsRow.holds Try.pinned (OpenSpec.ofChange pathSlotsWrong)

/- THE SECOND FORM. 'bulk': how many values and letters a reading holds, each counted each time it is reached (what is shared counts as often as it is met; a slice's spare places count too). A statement '..UptoSaid' is the law's where the arguments, and the package variables that the reading takes, are together of bulk at most 1048576: NARROWER than '..Said'. Prove '..Said' where nothing that the law and all that it calls make is longer than what came in: it says more and counts as full. Else prove '..UptoSaid'. A law counts once. -/
mutual
def uptoBulk {H : Type} : DataW H → Nat
  | .lit (.string bytes) => bytes.length + 1
  | .lit _ => 1
  | .nil => 1
  | .ptr d => uptoBulk d + 1
  | .slice elems spare => uptoBulkAll elems + uptoBulkAll spare + 1
  | .agg parts => uptoBulkAll parts + 1
  | .iface _ d => uptoBulk d + 1
  | .map entries => uptoBulkEntries entries + 1
  | .held _ => 1
def uptoBulkAll {H : Type} : List (DataW H) → Nat
  | [] => 0
  | d :: r => uptoBulk d + uptoBulkAll r
def uptoBulkEntries {H : Type} : List (Lit × DataW H) → Nat
  | [] => 0
  | x :: r => uptoBulkEntry x + uptoBulkEntries r
def uptoBulkEntry {H : Type} : Lit × DataW H → Nat
  | (.string bytes, d) => bytes.length + uptoBulk d + 1
  | (_, d) => uptoBulk d + 1
 end
def uptoSmall : (H : Type) → List (DataW H) → Bool := fun _ ds => decide (uptoBulkAll ds ≤ 1048576)
def OpenSpec.upto (s : _root_.Go.ChangeSpec) : _root_.Go.OpenSpec := { _root_.Go.OpenSpec.ofChange s with cond := some uptoSmall }

/-- 'padlocklaw13.PathIs', WHERE WHAT IT READS IS OF BULK AT MOST 1048576: true; the input reads as it did. -/
def pathIsUptoRow : OpenClaim := { program := "ytnggcokgnblpgaa", sum := "0c994bed797e61c9128a6b1cf4611fbb45c77af00fb4c68956c620b95be87386", func := "padlock/padlocklaw13.PathIs", spec := "pathIs", unfollowed := true, recurses := true, plainKeys := false, apart := false, narrowed := true }
def PathIsUptoSaid : Prop := pathIsUptoRow.holds Try.pinned (OpenSpec.upto pathIsSpec)

/-- 'padlocklaw13.PathKeeps', WHERE WHAT IT READS IS OF BULK AT MOST 1048576: true; the input reads as it did. -/
def pathKeepsUptoRow : OpenClaim := { program := "ytnggcokgnblpgaa", sum := "0c994bed797e61c9128a6b1cf4611fbb45c77af00fb4c68956c620b95be87386", func := "padlock/padlocklaw13.PathKeeps", spec := "pathKeeps", unfollowed := true, recurses := true, plainKeys := false, apart := false, narrowed := true }
def PathKeepsUptoSaid : Prop := pathKeepsUptoRow.holds Try.pinned (OpenSpec.upto pathKeepsSpec)

/-- 'padlocklaw13.PathSame', WHERE WHAT IT READS IS OF BULK AT MOST 1048576: true; the input reads as it did. -/
def pathSameUptoRow : OpenClaim := { program := "ytnggcokgnblpgaa", sum := "0c994bed797e61c9128a6b1cf4611fbb45c77af00fb4c68956c620b95be87386", func := "padlock/padlocklaw13.PathSame", spec := "pathSame", unfollowed := true, recurses := true, plainKeys := false, apart := false, narrowed := true }
def PathSameUptoSaid : Prop := pathSameUptoRow.holds Try.pinned (OpenSpec.upto pathSameSpec)

/-- 'padlocklaw13.PathSlots', WHERE WHAT IT READS IS OF BULK AT MOST 1048576: true; the input reads as it did. -/
def pathSlotsUptoRow : OpenClaim := { program := "ytnggcokgnblpgaa", sum := "0c994bed797e61c9128a6b1cf4611fbb45c77af00fb4c68956c620b95be87386", func := "padlock/padlocklaw13.PathSlots", spec := "pathSlots", unfollowed := true, recurses := true, plainKeys := false, apart := false, narrowed := true }
def PathSlotsUptoSaid : Prop := pathSlotsUptoRow.holds Try.pinned (OpenSpec.upto pathSlotsSpec)

end Rows
end Go.Proofs.Ytnggcokgnblpgaa
