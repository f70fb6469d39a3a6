/-
  NARROWER THAN 'FOR EVERY INPUT', by the rows' own cells (each row's printed sentence says how): ClassIs: laid · ClassFine: laid · ClassMore: laid · PtsIs: laid · PtsHolds: laid · PtsTyped: laid · PtsEach: laid · PtsLess: laid · ClassWhole: laid.
  DERIVED. THE GIVEN ROWS OF THIS SEAT. 9 by the template 'for every input the law returns true; each argument reads behind the call as it read before'; 0 by the template 'total and deterministic' (their statements: YtopfjochppdnfaaDoorTotals.lean).
  GIVEN WITH THE SEED: the statements are not yours to turn. If you find one false, say at which input.
  Laid BY PROGRAM, IN A SANDBOX (cutbox-rows.mjs): the forced cells as the released guide's own fill.sh prints them over the translation 6141eb90e24a7f0e… (all of the seat's roots in one cut). By AI agents, Wed Nov 11 2026. No macro, syntax, notation, axiom, sorry.
-/
import Derived.Test.YtopfjochppdnfaaDoorChecked
import GoSem.Claim
import GoSem.ClaimJoined
import GoSem.ClaimMapViews
import Derived.JoinedTies
import Derived.KernelRfl
namespace Go.Proofs.YtopfjochppdnfaaDoor
/- THE CELL 'sum', in the pinned program and in every row, IS THE sha256 OF THE DUMP (.gsa) THAT YtopfjochppdnfaaDoorProg.lean LOADS. Nothing in Lean hashes anything: it is a label: what it is worth is what the hold of that sum in a sandbox is worth. -/
noncomputable def Tryd.pinned : Pinned := { name := "ytopfjochppdnfaadoor", sum := "6141eb90e24a7f0e9157e5f21a0d3158c78ad74ea8a231d1df839901a98baba6", checked := Tryd.checked }
namespace Rows
def none {H : Type} : Left H := { results := [], args := [] }

/- WHAT THE LISTED PACKAGE-LEVEL VARIABLES READ AS WHEN THE CALL BEGINS. Each datum BY PROGRAM (the guide's laid-datum.mjs) off the statement by which the dump's own 'gosem.cut.vars' lays the variable. In a bare row this is a premise. The card (YtopfjochppdnfaaDoorCards.lean) ties it to the program's text. -/
def laid_math_bits_deBruijn64tab {H : Type} : DataW H := .agg [.lit (.int .u8 0), .lit (.int .u8 1), .lit (.int .u8 56), .lit (.int .u8 2), .lit (.int .u8 57), .lit (.int .u8 49), .lit (.int .u8 28), .lit (.int .u8 3), .lit (.int .u8 61), .lit (.int .u8 58), .lit (.int .u8 42), .lit (.int .u8 50), .lit (.int .u8 38), .lit (.int .u8 29), .lit (.int .u8 17), .lit (.int .u8 4), .lit (.int .u8 62), .lit (.int .u8 47), .lit (.int .u8 59), .lit (.int .u8 36), .lit (.int .u8 45), .lit (.int .u8 43), .lit (.int .u8 51), .lit (.int .u8 22), .lit (.int .u8 53), .lit (.int .u8 39), .lit (.int .u8 33), .lit (.int .u8 30), .lit (.int .u8 24), .lit (.int .u8 18), .lit (.int .u8 12), .lit (.int .u8 5), .lit (.int .u8 63), .lit (.int .u8 55), .lit (.int .u8 48), .lit (.int .u8 27), .lit (.int .u8 60), .lit (.int .u8 41), .lit (.int .u8 37), .lit (.int .u8 16), .lit (.int .u8 46), .lit (.int .u8 35), .lit (.int .u8 44), .lit (.int .u8 21), .lit (.int .u8 52), .lit (.int .u8 32), .lit (.int .u8 23), .lit (.int .u8 11), .lit (.int .u8 54), .lit (.int .u8 26), .lit (.int .u8 40), .lit (.int .u8 15), .lit (.int .u8 34), .lit (.int .u8 20), .lit (.int .u8 31), .lit (.int .u8 10), .lit (.int .u8 25), .lit (.int .u8 14), .lit (.int .u8 19), .lit (.int .u8 9), .lit (.int .u8 13), .lit (.int .u8 8), .lit (.int .u8 7), .lit (.int .u8 6)]

/-- 'padlocklaw12.ClassIs': WHATEVER THE INPUT: true; the input reads as it did. -/
def classIsSpec : ChangeSpec := { name := "classIs", fn := fun _ => fun
  | [d1, d2, d3] => { results := [.lit (.bool true)], args := [d1, d2, d3] }
  | _ => none }
def classIsRow : OpenClaim := { program := "ytopfjochppdnfaadoor", sum := "6141eb90e24a7f0e9157e5f21a0d3158c78ad74ea8a231d1df839901a98baba6", func := "padlock/padlocklaw12.ClassIs", spec := "classIs", unfollowed := true, recurses := true, named := ["math/bits.deBruijn64tab"], apart := false, laid := [("math/bits.deBruijn64tab", laid_math_bits_deBruijn64tab)] }
def ClassIsSaid : Prop := classIsRow.holds Tryd.pinned (OpenSpec.ofChange classIsSpec)

/-- ITS FALSE NEIGHBOUR: 'it returns false'. Refute it at one input. -/
def classIsWrong : ChangeSpec := { name := "classIs", fn := fun _ => fun
  | [d1, d2, d3] => { results := [.lit (.bool false)], args := [d1, d2, d3] }
  | _ => none }
def ClassIsWrongFalsely : Prop := classIsRow.holds Tryd.pinned (OpenSpec.ofChange classIsWrong)

/-- 'padlocklaw12.ClassFine': WHATEVER THE INPUT: true; the input reads as it did. -/
def classFineSpec : ChangeSpec := { name := "classFine", fn := fun _ => fun
  | [d1, d2] => { results := [.lit (.bool true)], args := [d1, d2] }
  | _ => none }
def classFineRow : OpenClaim := { program := "ytopfjochppdnfaadoor", sum := "6141eb90e24a7f0e9157e5f21a0d3158c78ad74ea8a231d1df839901a98baba6", func := "padlock/padlocklaw12.ClassFine", spec := "classFine", unfollowed := true, recurses := true, named := ["math/bits.deBruijn64tab"], apart := false, laid := [("math/bits.deBruijn64tab", laid_math_bits_deBruijn64tab)] }
def ClassFineSaid : Prop := classFineRow.holds Tryd.pinned (OpenSpec.ofChange classFineSpec)

/-- ITS FALSE NEIGHBOUR: 'it returns false'. Refute it at one input. -/
def classFineWrong : ChangeSpec := { name := "classFine", fn := fun _ => fun
  | [d1, d2] => { results := [.lit (.bool false)], args := [d1, d2] }
  | _ => none }
def ClassFineWrongFalsely : Prop := classFineRow.holds Tryd.pinned (OpenSpec.ofChange classFineWrong)

/-- 'padlocklaw12.ClassMore': WHATEVER THE INPUT: true; the input reads as it did. -/
def classMoreSpec : ChangeSpec := { name := "classMore", fn := fun _ => fun
  | [d1, d2, d3] => { results := [.lit (.bool true)], args := [d1, d2, d3] }
  | _ => none }
def classMoreRow : OpenClaim := { program := "ytopfjochppdnfaadoor", sum := "6141eb90e24a7f0e9157e5f21a0d3158c78ad74ea8a231d1df839901a98baba6", func := "padlock/padlocklaw12.ClassMore", spec := "classMore", unfollowed := true, recurses := true, named := ["math/bits.deBruijn64tab"], apart := false, laid := [("math/bits.deBruijn64tab", laid_math_bits_deBruijn64tab)] }
def ClassMoreSaid : Prop := classMoreRow.holds Tryd.pinned (OpenSpec.ofChange classMoreSpec)

/-- ITS FALSE NEIGHBOUR: 'it returns false'. Refute it at one input. -/
def classMoreWrong : ChangeSpec := { name := "classMore", fn := fun _ => fun
  | [d1, d2, d3] => { results := [.lit (.bool false)], args := [d1, d2, d3] }
  | _ => none }
def ClassMoreWrongFalsely : Prop := classMoreRow.holds Tryd.pinned (OpenSpec.ofChange classMoreWrong)

/-- 'padlocklaw11.PtsIs': WHATEVER THE INPUT: true; the input reads as it did. -/
def ptsIsSpec : ChangeSpec := { name := "ptsIs", fn := fun _ => fun
  | [d] => { results := [.lit (.bool true)], args := [d] }
  | _ => none }
def ptsIsRow : OpenClaim := { program := "ytopfjochppdnfaadoor", sum := "6141eb90e24a7f0e9157e5f21a0d3158c78ad74ea8a231d1df839901a98baba6", func := "padlock/padlocklaw11.PtsIs", spec := "ptsIs", unfollowed := true, recurses := true, named := ["math/bits.deBruijn64tab"], apart := false, laid := [("math/bits.deBruijn64tab", laid_math_bits_deBruijn64tab)] }
def PtsIsSaid : Prop := ptsIsRow.holds Tryd.pinned (OpenSpec.ofChange ptsIsSpec)

/-- ITS FALSE NEIGHBOUR: 'it returns false'. Refute it at one input. -/
def ptsIsWrong : ChangeSpec := { name := "ptsIs", fn := fun _ => fun
  | [d] => { results := [.lit (.bool false)], args := [d] }
  | _ => none }
def PtsIsWrongFalsely : Prop := ptsIsRow.holds Tryd.pinned (OpenSpec.ofChange ptsIsWrong)

/-- 'padlocklaw11.PtsHolds': WHATEVER THE INPUT: true; the input reads as it did. -/
def ptsHoldsSpec : ChangeSpec := { name := "ptsHolds", fn := fun _ => fun
  | [d] => { results := [.lit (.bool true)], args := [d] }
  | _ => none }
def ptsHoldsRow : OpenClaim := { program := "ytopfjochppdnfaadoor", sum := "6141eb90e24a7f0e9157e5f21a0d3158c78ad74ea8a231d1df839901a98baba6", func := "padlock/padlocklaw11.PtsHolds", spec := "ptsHolds", unfollowed := true, recurses := true, named := ["math/bits.deBruijn64tab"], apart := false, laid := [("math/bits.deBruijn64tab", laid_math_bits_deBruijn64tab)] }
def PtsHoldsSaid : Prop := ptsHoldsRow.holds Tryd.pinned (OpenSpec.ofChange ptsHoldsSpec)

/-- ITS FALSE NEIGHBOUR: 'it returns false'. Refute it at one input. -/
def ptsHoldsWrong : ChangeSpec := { name := "ptsHolds", fn := fun _ => fun
  | [d] => { results := [.lit (.bool false)], args := [d] }
  | _ => none }
def PtsHoldsWrongFalsely : Prop := ptsHoldsRow.holds Tryd.pinned (OpenSpec.ofChange ptsHoldsWrong)

/-- 'padlocklaw11.PtsTyped': WHATEVER THE INPUT: true; the input reads as it did. -/
def ptsTypedSpec : ChangeSpec := { name := "ptsTyped", fn := fun _ => fun
  | [d] => { results := [.lit (.bool true)], args := [d] }
  | _ => none }
def ptsTypedRow : OpenClaim := { program := "ytopfjochppdnfaadoor", sum := "6141eb90e24a7f0e9157e5f21a0d3158c78ad74ea8a231d1df839901a98baba6", func := "padlock/padlocklaw11.PtsTyped", spec := "ptsTyped", unfollowed := true, recurses := true, named := ["math/bits.deBruijn64tab"], apart := false, laid := [("math/bits.deBruijn64tab", laid_math_bits_deBruijn64tab)] }
def PtsTypedSaid : Prop := ptsTypedRow.holds Tryd.pinned (OpenSpec.ofChange ptsTypedSpec)

/-- ITS FALSE NEIGHBOUR: 'it returns false'. Refute it at one input. -/
def ptsTypedWrong : ChangeSpec := { name := "ptsTyped", fn := fun _ => fun
  | [d] => { results := [.lit (.bool false)], args := [d] }
  | _ => none }
def PtsTypedWrongFalsely : Prop := ptsTypedRow.holds Tryd.pinned (OpenSpec.ofChange ptsTypedWrong)

/-- 'padlocklaw11.PtsEach': WHATEVER THE INPUT: true; the input reads as it did. -/
def ptsEachSpec : ChangeSpec := { name := "ptsEach", fn := fun _ => fun
  | [d1, d2] => { results := [.lit (.bool true)], args := [d1, d2] }
  | _ => none }
def ptsEachRow : OpenClaim := { program := "ytopfjochppdnfaadoor", sum := "6141eb90e24a7f0e9157e5f21a0d3158c78ad74ea8a231d1df839901a98baba6", func := "padlock/padlocklaw11.PtsEach", spec := "ptsEach", unfollowed := true, recurses := true, named := ["math/bits.deBruijn64tab"], apart := false, laid := [("math/bits.deBruijn64tab", laid_math_bits_deBruijn64tab)] }
def PtsEachSaid : Prop := ptsEachRow.holds Tryd.pinned (OpenSpec.ofChange ptsEachSpec)

/-- ITS FALSE NEIGHBOUR: 'it returns false'. Refute it at one input. -/
def ptsEachWrong : ChangeSpec := { name := "ptsEach", fn := fun _ => fun
  | [d1, d2] => { results := [.lit (.bool false)], args := [d1, d2] }
  | _ => none }
def PtsEachWrongFalsely : Prop := ptsEachRow.holds Tryd.pinned (OpenSpec.ofChange ptsEachWrong)

/-- 'padlocklaw11.PtsLess': WHATEVER THE INPUT: true; the input reads as it did. -/
def ptsLessSpec : ChangeSpec := { name := "ptsLess", fn := fun _ => fun
  | [d1, d2, d3] => { results := [.lit (.bool true)], args := [d1, d2, d3] }
  | _ => none }
def ptsLessRow : OpenClaim := { program := "ytopfjochppdnfaadoor", sum := "6141eb90e24a7f0e9157e5f21a0d3158c78ad74ea8a231d1df839901a98baba6", func := "padlock/padlocklaw11.PtsLess", spec := "ptsLess", unfollowed := true, recurses := true, named := ["math/bits.deBruijn64tab"], apart := false, laid := [("math/bits.deBruijn64tab", laid_math_bits_deBruijn64tab)] }
def PtsLessSaid : Prop := ptsLessRow.holds Tryd.pinned (OpenSpec.ofChange ptsLessSpec)

/-- ITS FALSE NEIGHBOUR: 'it returns false'. Refute it at one input. -/
def ptsLessWrong : ChangeSpec := { name := "ptsLess", fn := fun _ => fun
  | [d1, d2, d3] => { results := [.lit (.bool false)], args := [d1, d2, d3] }
  | _ => none }
def PtsLessWrongFalsely : Prop := ptsLessRow.holds Tryd.pinned (OpenSpec.ofChange ptsLessWrong)

/-- 'padlocklaw12.ClassWhole': WHATEVER THE INPUT: true; the input reads as it did. -/
def classWholeSpec : ChangeSpec := { name := "classWhole", fn := fun _ => fun
  | [d] => { results := [.lit (.bool true)], args := [d] }
  | _ => none }
def classWholeRow : OpenClaim := { program := "ytopfjochppdnfaadoor", sum := "6141eb90e24a7f0e9157e5f21a0d3158c78ad74ea8a231d1df839901a98baba6", func := "padlock/padlocklaw12.ClassWhole", spec := "classWhole", unfollowed := true, recurses := true, named := ["math/bits.deBruijn64tab"], apart := false, laid := [("math/bits.deBruijn64tab", laid_math_bits_deBruijn64tab)] }
def ClassWholeSaid : Prop := classWholeRow.holds Tryd.pinned (OpenSpec.ofChange classWholeSpec)

/-- ITS FALSE NEIGHBOUR: 'it returns false'. Refute it at one input. -/
def classWholeWrong : ChangeSpec := { name := "classWhole", fn := fun _ => fun
  | [d] => { results := [.lit (.bool false)], args := [d] }
  | _ => none }
def ClassWholeWrongFalsely : Prop := classWholeRow.holds Tryd.pinned (OpenSpec.ofChange classWholeWrong)

/- THE SECOND FORM. 'bulk': how many values and letters a reading holds, each counted each time it is reached (what is shared counts as often as it is met; a slice's spare places count too). A statement '..UptoSaid' is the law's where the arguments, and the package variables that the reading takes, are together of bulk at most 1048576: NARROWER than '..Said'. Prove '..Said' where nothing that the law and all that it calls make is longer than what came in: it says more and counts as full. Else prove '..UptoSaid'. A law counts once. -/
mutual
def uptoBulk {H : Type} : DataW H → Nat
  | .lit (.string bytes) => bytes.length + 1
  | .lit _ => 1
  | .nil => 1
  | .ptr d => uptoBulk d + 1
  | .slice elems spare => uptoBulkAll elems + uptoBulkAll spare + 1
  | .agg parts => uptoBulkAll parts + 1
  | .iface _ d => uptoBulk d + 1
  | .map entries => uptoBulkEntries entries + 1
  | .held _ => 1
def uptoBulkAll {H : Type} : List (DataW H) → Nat
  | [] => 0
  | d :: r => uptoBulk d + uptoBulkAll r
def uptoBulkEntries {H : Type} : List (Lit × DataW H) → Nat
  | [] => 0
  | x :: r => uptoBulkEntry x + uptoBulkEntries r
def uptoBulkEntry {H : Type} : Lit × DataW H → Nat
  | (.string bytes, d) => bytes.length + uptoBulk d + 1
  | (_, d) => uptoBulk d + 1
 end
def uptoSmall : (H : Type) → List (DataW H) → Bool := fun _ ds => decide (uptoBulkAll ds ≤ 1048576)
def OpenSpec.upto (s : _root_.Go.ChangeSpec) : _root_.Go.OpenSpec := { _root_.Go.OpenSpec.ofChange s with cond := some uptoSmall }

/-- 'padlocklaw12.ClassIs', WHERE WHAT IT READS IS OF BULK AT MOST 1048576: true; the input reads as it did. -/
def classIsUptoRow : OpenClaim := { program := "ytopfjochppdnfaadoor", sum := "6141eb90e24a7f0e9157e5f21a0d3158c78ad74ea8a231d1df839901a98baba6", func := "padlock/padlocklaw12.ClassIs", spec := "classIs", unfollowed := true, recurses := true, named := ["math/bits.deBruijn64tab"], apart := false, laid := [("math/bits.deBruijn64tab", laid_math_bits_deBruijn64tab)], narrowed := true }
def ClassIsUptoSaid : Prop := classIsUptoRow.holds Tryd.pinned (OpenSpec.upto classIsSpec)

/-- 'padlocklaw12.ClassFine', WHERE WHAT IT READS IS OF BULK AT MOST 1048576: true; the input reads as it did. -/
def classFineUptoRow : OpenClaim := { program := "ytopfjochppdnfaadoor", sum := "6141eb90e24a7f0e9157e5f21a0d3158c78ad74ea8a231d1df839901a98baba6", func := "padlock/padlocklaw12.ClassFine", spec := "classFine", unfollowed := true, recurses := true, named := ["math/bits.deBruijn64tab"], apart := false, laid := [("math/bits.deBruijn64tab", laid_math_bits_deBruijn64tab)], narrowed := true }
def ClassFineUptoSaid : Prop := classFineUptoRow.holds Tryd.pinned (OpenSpec.upto classFineSpec)

/-- 'padlocklaw12.ClassMore', WHERE WHAT IT READS IS OF BULK AT MOST 1048576: true; the input reads as it did. -/
def classMoreUptoRow : OpenClaim := { program := "ytopfjochppdnfaadoor", sum := "6141eb90e24a7f0e9157e5f21a0d3158c78ad74ea8a231d1df839901a98baba6", func := "padlock/padlocklaw12.ClassMore", spec := "classMore", unfollowed := true, recurses := true, named := ["math/bits.deBruijn64tab"], apart := false, laid := [("math/bits.deBruijn64tab", laid_math_bits_deBruijn64tab)], narrowed := true }
def ClassMoreUptoSaid : Prop := classMoreUptoRow.holds Tryd.pinned (OpenSpec.upto classMoreSpec)

/-- 'padlocklaw11.PtsIs', WHERE WHAT IT READS IS OF BULK AT MOST 1048576: true; the input reads as it did. -/
def ptsIsUptoRow : OpenClaim := { program := "ytopfjochppdnfaadoor", sum := "6141eb90e24a7f0e9157e5f21a0d3158c78ad74ea8a231d1df839901a98baba6", func := "padlock/padlocklaw11.PtsIs", spec := "ptsIs", unfollowed := true, recurses := true, named := ["math/bits.deBruijn64tab"], apart := false, laid := [("math/bits.deBruijn64tab", laid_math_bits_deBruijn64tab)], narrowed := true }
def PtsIsUptoSaid : Prop := ptsIsUptoRow.holds Tryd.pinned (OpenSpec.upto ptsIsSpec)

/-- 'padlocklaw11.PtsHolds', WHERE WHAT IT READS IS OF BULK AT MOST 1048576: true; the input reads as it did. -/
def ptsHoldsUptoRow : OpenClaim := { program := "ytopfjochppdnfaadoor", sum := "6141eb90e24a7f0e9157e5f21a0d3158c78ad74ea8a231d1df839901a98baba6", func := "padlock/padlocklaw11.PtsHolds", spec := "ptsHolds", unfollowed := true, recurses := true, named := ["math/bits.deBruijn64tab"], apart := false, laid := [("math/bits.deBruijn64tab", laid_math_bits_deBruijn64tab)], narrowed := true }
def PtsHoldsUptoSaid : Prop := ptsHoldsUptoRow.holds Tryd.pinned (OpenSpec.upto ptsHoldsSpec)

/-- 'padlocklaw11.PtsTyped', WHERE WHAT IT READS IS OF BULK AT MOST 1048576: true; the input reads as it did. -/
def ptsTypedUptoRow : OpenClaim := { program := "ytopfjochppdnfaadoor", sum := "6141eb90e24a7f0e9157e5f21a0d3158c78ad74ea8a231d1df839901a98baba6", func := "padlock/padlocklaw11.PtsTyped", spec := "ptsTyped", unfollowed := true, recurses := true, named := ["math/bits.deBruijn64tab"], apart := false, laid := [("math/bits.deBruijn64tab", laid_math_bits_deBruijn64tab)], narrowed := true }
def PtsTypedUptoSaid : Prop := ptsTypedUptoRow.holds Tryd.pinned (OpenSpec.upto ptsTypedSpec)

/-- 'padlocklaw11.PtsEach', WHERE WHAT IT READS IS OF BULK AT MOST 1048576: true; the input reads as it did. -/
def ptsEachUptoRow : OpenClaim := { program := "ytopfjochppdnfaadoor", sum := "6141eb90e24a7f0e9157e5f21a0d3158c78ad74ea8a231d1df839901a98baba6", func := "padlock/padlocklaw11.PtsEach", spec := "ptsEach", unfollowed := true, recurses := true, named := ["math/bits.deBruijn64tab"], apart := false, laid := [("math/bits.deBruijn64tab", laid_math_bits_deBruijn64tab)], narrowed := true }
def PtsEachUptoSaid : Prop := ptsEachUptoRow.holds Tryd.pinned (OpenSpec.upto ptsEachSpec)

/-- 'padlocklaw11.PtsLess', WHERE WHAT IT READS IS OF BULK AT MOST 1048576: true; the input reads as it did. -/
def ptsLessUptoRow : OpenClaim := { program := "ytopfjochppdnfaadoor", sum := "6141eb90e24a7f0e9157e5f21a0d3158c78ad74ea8a231d1df839901a98baba6", func := "padlock/padlocklaw11.PtsLess", spec := "ptsLess", unfollowed := true, recurses := true, named := ["math/bits.deBruijn64tab"], apart := false, laid := [("math/bits.deBruijn64tab", laid_math_bits_deBruijn64tab)], narrowed := true }
def PtsLessUptoSaid : Prop := ptsLessUptoRow.holds Tryd.pinned (OpenSpec.upto ptsLessSpec)

/-- 'padlocklaw12.ClassWhole', WHERE WHAT IT READS IS OF BULK AT MOST 1048576: true; the input reads as it did. -/
def classWholeUptoRow : OpenClaim := { program := "ytopfjochppdnfaadoor", sum := "6141eb90e24a7f0e9157e5f21a0d3158c78ad74ea8a231d1df839901a98baba6", func := "padlock/padlocklaw12.ClassWhole", spec := "classWhole", unfollowed := true, recurses := true, named := ["math/bits.deBruijn64tab"], apart := false, laid := [("math/bits.deBruijn64tab", laid_math_bits_deBruijn64tab)], narrowed := true }
def ClassWholeUptoSaid : Prop := classWholeUptoRow.holds Tryd.pinned (OpenSpec.upto classWholeSpec)

end Rows
end Go.Proofs.YtopfjochppdnfaaDoor
