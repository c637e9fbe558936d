/-
  No cell of these rows narrows 'for every input' (looked for: loops, veiled, ifaces, maps, wideKeys, modest, calm, conditions, laid).
  DERIVED. THE GIVEN ROWS OF THIS SEAT. 6 by the template 'for every input the law returns true; each argument reads behind the call as it read before'; 0 by the template 'total and deterministic' (their statements: YtcejamblndilbaaTotals.lean).
  GIVEN WITH THE SEED: the statements are not yours to turn. If you find one false, say at which input.
  Laid BY PROGRAM, IN A SANDBOX (cutbox-rows.mjs): the forced cells as the released guide's own fill.sh prints them over the translation 7b323fd3715e4cbe… (all of the seat's roots in one cut). By AI agents, Wed Nov 11 2026. No macro, syntax, notation, axiom, sorry.
-/
import Derived.Test.YtcejamblndilbaaChecked
import GoSem.Claim
import GoSem.ClaimJoined
import GoSem.ClaimMapViews
import Derived.JoinedTies
import Derived.KernelRfl
namespace Go.Proofs.Ytcejamblndilbaa
/- THE CELL 'sum', in the pinned program and in every row, IS THE sha256 OF THE DUMP (.gsa) THAT YtcejamblndilbaaProg.lean LOADS. Nothing in Lean hashes anything: it is a label: what it is worth is what the hold of that sum in a sandbox is worth. -/
noncomputable def Try.pinned : Pinned := { name := "ytcejamblndilbaa", sum := "7b323fd3715e4cbe11e3252e261a9748ec6daba7d32fd180fb4ac1783947370d", checked := Try.checked }
namespace Rows
def none {H : Type} : Left H := { results := [], args := [] }

/-- 'quilletlaw17.MsgEncodes': WHATEVER THE INPUT: true; the input reads as it did. -/
def msgEncodesSpec : ChangeSpec := { name := "msgEncodes", fn := fun _ => fun
  | [d] => { results := [.lit (.bool true)], args := [d] }
  | _ => none }
def msgEncodesRow : OpenClaim := { program := "ytcejamblndilbaa", sum := "7b323fd3715e4cbe11e3252e261a9748ec6daba7d32fd180fb4ac1783947370d", func := "quillet/quilletlaw17.MsgEncodes", spec := "msgEncodes", inPlace := ["math.Float64frombits", "math.Float64bits"], unfollowed := true, recurses := true, apart := false }
def MsgEncodesSaid : Prop := msgEncodesRow.holds Try.pinned (OpenSpec.ofChange msgEncodesSpec)

/-- ITS FALSE NEIGHBOUR: 'it returns false'. Refute it at one input. -/
def msgEncodesWrong : ChangeSpec := { name := "msgEncodes", fn := fun _ => fun
  | [d] => { results := [.lit (.bool false)], args := [d] }
  | _ => none }
def MsgEncodesWrongFalsely : Prop := msgEncodesRow.holds Try.pinned (OpenSpec.ofChange msgEncodesWrong)

/-- 'quilletlaw17.MsgDecodes': WHATEVER THE INPUT: true; the input reads as it did. -/
def msgDecodesSpec : ChangeSpec := { name := "msgDecodes", fn := fun _ => fun
  | [d] => { results := [.lit (.bool true)], args := [d] }
  | _ => none }
def msgDecodesRow : OpenClaim := { program := "ytcejamblndilbaa", sum := "7b323fd3715e4cbe11e3252e261a9748ec6daba7d32fd180fb4ac1783947370d", func := "quillet/quilletlaw17.MsgDecodes", spec := "msgDecodes", inPlace := ["math.Float64frombits", "math.Float64bits"], unfollowed := true, recurses := true, apart := false }
def MsgDecodesSaid : Prop := msgDecodesRow.holds Try.pinned (OpenSpec.ofChange msgDecodesSpec)

/-- ITS FALSE NEIGHBOUR: 'it returns false'. Refute it at one input. -/
def msgDecodesWrong : ChangeSpec := { name := "msgDecodes", fn := fun _ => fun
  | [d] => { results := [.lit (.bool false)], args := [d] }
  | _ => none }
def MsgDecodesWrongFalsely : Prop := msgDecodesRow.holds Try.pinned (OpenSpec.ofChange msgDecodesWrong)

/-- 'quilletlaw17.MsgBack': WHATEVER THE INPUT: true; the input reads as it did. -/
def msgBackSpec : ChangeSpec := { name := "msgBack", fn := fun _ => fun
  | [d1, d2] => { results := [.lit (.bool true)], args := [d1, d2] }
  | _ => none }
def msgBackRow : OpenClaim := { program := "ytcejamblndilbaa", sum := "7b323fd3715e4cbe11e3252e261a9748ec6daba7d32fd180fb4ac1783947370d", func := "quillet/quilletlaw17.MsgBack", spec := "msgBack", inPlace := ["math.Float64frombits", "math.Float64bits"], unfollowed := true, recurses := true, apart := false }
def MsgBackSaid : Prop := msgBackRow.holds Try.pinned (OpenSpec.ofChange msgBackSpec)

/-- ITS FALSE NEIGHBOUR: 'it returns false'. Refute it at one input. -/
def msgBackWrong : ChangeSpec := { name := "msgBack", fn := fun _ => fun
  | [d1, d2] => { results := [.lit (.bool false)], args := [d1, d2] }
  | _ => none }
def MsgBackWrongFalsely : Prop := msgBackRow.holds Try.pinned (OpenSpec.ofChange msgBackWrong)

/-- 'quilletlaw17.MsgTurns': WHATEVER THE INPUT: true; the input reads as it did. -/
def msgTurnsSpec : ChangeSpec := { name := "msgTurns", fn := fun _ => fun
  | [d1, d2, d3] => { results := [.lit (.bool true)], args := [d1, d2, d3] }
  | _ => none }
def msgTurnsRow : OpenClaim := { program := "ytcejamblndilbaa", sum := "7b323fd3715e4cbe11e3252e261a9748ec6daba7d32fd180fb4ac1783947370d", func := "quillet/quilletlaw17.MsgTurns", spec := "msgTurns", inPlace := ["math.Float64frombits", "math.Float64bits"], unfollowed := true, recurses := true, apart := false }
def MsgTurnsSaid : Prop := msgTurnsRow.holds Try.pinned (OpenSpec.ofChange msgTurnsSpec)

/-- ITS FALSE NEIGHBOUR: 'it returns false'. Refute it at one input. -/
def msgTurnsWrong : ChangeSpec := { name := "msgTurns", fn := fun _ => fun
  | [d1, d2, d3] => { results := [.lit (.bool false)], args := [d1, d2, d3] }
  | _ => none }
def MsgTurnsWrongFalsely : Prop := msgTurnsRow.holds Try.pinned (OpenSpec.ofChange msgTurnsWrong)

/-- 'quilletlaw17.MsgSame': WHATEVER THE INPUT: true; the input reads as it did. -/
def msgSameSpec : ChangeSpec := { name := "msgSame", fn := fun _ => fun
  | [d1, d2] => { results := [.lit (.bool true)], args := [d1, d2] }
  | _ => none }
def msgSameRow : OpenClaim := { program := "ytcejamblndilbaa", sum := "7b323fd3715e4cbe11e3252e261a9748ec6daba7d32fd180fb4ac1783947370d", func := "quillet/quilletlaw17.MsgSame", spec := "msgSame", inPlace := ["math.Float64frombits", "math.Float64bits"], unfollowed := true, recurses := true, apart := false }
def MsgSameSaid : Prop := msgSameRow.holds Try.pinned (OpenSpec.ofChange msgSameSpec)

/-- ITS FALSE NEIGHBOUR: 'it returns false'. Refute it at one input. -/
def msgSameWrong : ChangeSpec := { name := "msgSame", fn := fun _ => fun
  | [d1, d2] => { results := [.lit (.bool false)], args := [d1, d2] }
  | _ => none }
def MsgSameWrongFalsely : Prop := msgSameRow.holds Try.pinned (OpenSpec.ofChange msgSameWrong)

/-- 'quillettop.WholeLetters': WHATEVER THE INPUT: true; the input reads as it did. -/
def wholeLettersSpec : ChangeSpec := { name := "wholeLetters", fn := fun _ => fun
  | [d1, d2] => { results := [.lit (.bool true)], args := [d1, d2] }
  | _ => none }
def wholeLettersRow : OpenClaim := { program := "ytcejamblndilbaa", sum := "7b323fd3715e4cbe11e3252e261a9748ec6daba7d32fd180fb4ac1783947370d", func := "quillet/quillettop.WholeLetters", spec := "wholeLetters", inPlace := ["math.Float64frombits", "math.Float64bits"], unfollowed := true, recurses := true, apart := false }
def WholeLettersSaid : Prop := wholeLettersRow.holds Try.pinned (OpenSpec.ofChange wholeLettersSpec)

/-- ITS FALSE NEIGHBOUR: 'it returns false'. Refute it at one input. -/
def wholeLettersWrong : ChangeSpec := { name := "wholeLetters", fn := fun _ => fun
  | [d1, d2] => { results := [.lit (.bool false)], args := [d1, d2] }
  | _ => none }
def WholeLettersWrongFalsely : Prop := wholeLettersRow.holds Try.pinned (OpenSpec.ofChange wholeLettersWrong)

/- THE SECOND FORM. 'bulk': how many values and letters a reading holds, each counted each time it is reached (what is shared counts as often as it is met; a slice's spare places count too). A statement '..UptoSaid' is the law's where the arguments, and the package variables that the reading takes, are together of bulk at most 1048576: NARROWER than '..Said'. Prove '..Said' where nothing that the law and all that it calls make is longer than what came in: it says more and counts as full. Else prove '..UptoSaid'. A law counts once. -/
mutual
def uptoBulk {H : Type} : DataW H → Nat
  | .lit (.string bytes) => bytes.length + 1
  | .lit _ => 1
  | .nil => 1
  | .ptr d => uptoBulk d + 1
  | .slice elems spare => uptoBulkAll elems + uptoBulkAll spare + 1
  | .agg parts => uptoBulkAll parts + 1
  | .iface _ d => uptoBulk d + 1
  | .map entries => uptoBulkEntries entries + 1
  | .held _ => 1
def uptoBulkAll {H : Type} : List (DataW H) → Nat
  | [] => 0
  | d :: r => uptoBulk d + uptoBulkAll r
def uptoBulkEntries {H : Type} : List (Lit × DataW H) → Nat
  | [] => 0
  | x :: r => uptoBulkEntry x + uptoBulkEntries r
def uptoBulkEntry {H : Type} : Lit × DataW H → Nat
  | (.string bytes, d) => bytes.length + uptoBulk d + 1
  | (_, d) => uptoBulk d + 1
 end
def uptoSmall : (H : Type) → List (DataW H) → Bool := fun _ ds => decide (uptoBulkAll ds ≤ 1048576)
def OpenSpec.upto (s : _root_.Go.ChangeSpec) : _root_.Go.OpenSpec := { _root_.Go.OpenSpec.ofChange s with cond := some uptoSmall }

/-- 'quilletlaw17.MsgEncodes', WHERE WHAT IT READS IS OF BULK AT MOST 1048576: true; the input reads as it did. -/
def msgEncodesUptoRow : OpenClaim := { program := "ytcejamblndilbaa", sum := "7b323fd3715e4cbe11e3252e261a9748ec6daba7d32fd180fb4ac1783947370d", func := "quillet/quilletlaw17.MsgEncodes", spec := "msgEncodes", inPlace := ["math.Float64frombits", "math.Float64bits"], unfollowed := true, recurses := true, apart := false, narrowed := true }
def MsgEncodesUptoSaid : Prop := msgEncodesUptoRow.holds Try.pinned (OpenSpec.upto msgEncodesSpec)

/-- 'quilletlaw17.MsgDecodes', WHERE WHAT IT READS IS OF BULK AT MOST 1048576: true; the input reads as it did. -/
def msgDecodesUptoRow : OpenClaim := { program := "ytcejamblndilbaa", sum := "7b323fd3715e4cbe11e3252e261a9748ec6daba7d32fd180fb4ac1783947370d", func := "quillet/quilletlaw17.MsgDecodes", spec := "msgDecodes", inPlace := ["math.Float64frombits", "math.Float64bits"], unfollowed := true, recurses := true, apart := false, narrowed := true }
def MsgDecodesUptoSaid : Prop := msgDecodesUptoRow.holds Try.pinned (OpenSpec.upto msgDecodesSpec)

/-- 'quilletlaw17.MsgBack', WHERE WHAT IT READS IS OF BULK AT MOST 1048576: true; the input reads as it did. -/
def msgBackUptoRow : OpenClaim := { program := "ytcejamblndilbaa", sum := "7b323fd3715e4cbe11e3252e261a9748ec6daba7d32fd180fb4ac1783947370d", func := "quillet/quilletlaw17.MsgBack", spec := "msgBack", inPlace := ["math.Float64frombits", "math.Float64bits"], unfollowed := true, recurses := true, apart := false, narrowed := true }
def MsgBackUptoSaid : Prop := msgBackUptoRow.holds Try.pinned (OpenSpec.upto msgBackSpec)

/-- 'quilletlaw17.MsgTurns', WHERE WHAT IT READS IS OF BULK AT MOST 1048576: true; the input reads as it did. -/
def msgTurnsUptoRow : OpenClaim := { program := "ytcejamblndilbaa", sum := "7b323fd3715e4cbe11e3252e261a9748ec6daba7d32fd180fb4ac1783947370d", func := "quillet/quilletlaw17.MsgTurns", spec := "msgTurns", inPlace := ["math.Float64frombits", "math.Float64bits"], unfollowed := true, recurses := true, apart := false, narrowed := true }
def MsgTurnsUptoSaid : Prop := msgTurnsUptoRow.holds Try.pinned (OpenSpec.upto msgTurnsSpec)

/-- 'quilletlaw17.MsgSame', WHERE WHAT IT READS IS OF BULK AT MOST 1048576: true; the input reads as it did. -/
def msgSameUptoRow : OpenClaim := { program := "ytcejamblndilbaa", sum := "7b323fd3715e4cbe11e3252e261a9748ec6daba7d32fd180fb4ac1783947370d", func := "quillet/quilletlaw17.MsgSame", spec := "msgSame", inPlace := ["math.Float64frombits", "math.Float64bits"], unfollowed := true, recurses := true, apart := false, narrowed := true }
def MsgSameUptoSaid : Prop := msgSameUptoRow.holds Try.pinned (OpenSpec.upto msgSameSpec)

/-- 'quillettop.WholeLetters', WHERE WHAT IT READS IS OF BULK AT MOST 1048576: true; the input reads as it did. -/
def wholeLettersUptoRow : OpenClaim := { program := "ytcejamblndilbaa", sum := "7b323fd3715e4cbe11e3252e261a9748ec6daba7d32fd180fb4ac1783947370d", func := "quillet/quillettop.WholeLetters", spec := "wholeLetters", inPlace := ["math.Float64frombits", "math.Float64bits"], unfollowed := true, recurses := true, apart := false, narrowed := true }
def WholeLettersUptoSaid : Prop := wholeLettersUptoRow.holds Try.pinned (OpenSpec.upto wholeLettersSpec)

end Rows
end Go.Proofs.Ytcejamblndilbaa
