/-
  No cell of these rows narrows 'for every input' (looked for: loops, veiled, ifaces, maps, wideKeys, modest, calm, conditions, laid).
  DERIVED. THE GIVEN ROWS OF THIS SEAT. 13 by the template 'for every input the law returns true; each argument reads behind the call as it read before'; 0 by the template 'total and deterministic' (their statements: YtdpajcamgipgkaaTotals.lean).
  GIVEN WITH THE SEED: the statements are not yours to turn. If you find one false, say at which input.
  Laid BY PROGRAM, IN A SANDBOX (cutbox-rows.mjs): the forced cells as the released guide's own fill.sh prints them over the translation 4fe87152133413ac… (all of the seat's roots in one cut). By AI agents, Wed Nov 11 2026. No macro, syntax, notation, axiom, sorry.
-/
import Derived.Test.YtdpajcamgipgkaaChecked
import GoSem.Claim
import GoSem.ClaimJoined
import GoSem.ClaimMapViews
import Derived.JoinedTies
import Derived.KernelRfl
namespace Go.Proofs.Ytdpajcamgipgkaa
/- THE CELL 'sum', in the pinned program and in every row, IS THE sha256 OF THE DUMP (.gsa) THAT YtdpajcamgipgkaaProg.lean LOADS. Nothing in Lean hashes anything: it is a label: what it is worth is what the hold of that sum in a sandbox is worth. -/
noncomputable def Try.pinned : Pinned := { name := "ytdpajcamgipgkaa", sum := "4fe87152133413ac69defc240e08d5b780f8b2c1e6ee50eb7ca9fe35bec65903", checked := Try.checked }
namespace Rows
def none {H : Type} : Left H := { results := [], args := [] }

/-- 'quilletlaw03.PackSums': WHATEVER THE INPUT: true; the input reads as it did. -/
def packSumsSpec : ChangeSpec := { name := "packSums", fn := fun _ => fun
  | [d] => { results := [.lit (.bool true)], args := [d] }
  | _ => none }
def packSumsRow : OpenClaim := { program := "ytdpajcamgipgkaa", sum := "4fe87152133413ac69defc240e08d5b780f8b2c1e6ee50eb7ca9fe35bec65903", func := "quillet/quilletlaw03.PackSums", spec := "packSums", apart := false }
def PackSumsSaid : Prop := packSumsRow.holds Try.pinned (OpenSpec.ofChange packSumsSpec)

/-- ITS FALSE NEIGHBOUR: 'it returns false'. Refute it at one input. -/
def packSumsWrong : ChangeSpec := { name := "packSums", fn := fun _ => fun
  | [d] => { results := [.lit (.bool false)], args := [d] }
  | _ => none }
def PackSumsWrongFalsely : Prop := packSumsRow.holds Try.pinned (OpenSpec.ofChange packSumsWrong)

/-- 'quilletlaw03.PackBits': WHATEVER THE INPUT: true; the input reads as it did. -/
def packBitsSpec : ChangeSpec := { name := "packBits", fn := fun _ => fun
  | [d1, d2, d3] => { results := [.lit (.bool true)], args := [d1, d2, d3] }
  | _ => none }
def packBitsRow : OpenClaim := { program := "ytdpajcamgipgkaa", sum := "4fe87152133413ac69defc240e08d5b780f8b2c1e6ee50eb7ca9fe35bec65903", func := "quillet/quilletlaw03.PackBits", spec := "packBits", apart := false }
def PackBitsSaid : Prop := packBitsRow.holds Try.pinned (OpenSpec.ofChange packBitsSpec)

/-- ITS FALSE NEIGHBOUR: 'it returns false'. Refute it at one input. -/
def packBitsWrong : ChangeSpec := { name := "packBits", fn := fun _ => fun
  | [d1, d2, d3] => { results := [.lit (.bool false)], args := [d1, d2, d3] }
  | _ => none }
def PackBitsWrongFalsely : Prop := packBitsRow.holds Try.pinned (OpenSpec.ofChange packBitsWrong)

/-- 'quilletlaw03.PackFrames': WHATEVER THE INPUT: true; the input reads as it did. -/
def packFramesSpec : ChangeSpec := { name := "packFrames", fn := fun _ => fun
  | [d1, d2] => { results := [.lit (.bool true)], args := [d1, d2] }
  | _ => none }
def packFramesRow : OpenClaim := { program := "ytdpajcamgipgkaa", sum := "4fe87152133413ac69defc240e08d5b780f8b2c1e6ee50eb7ca9fe35bec65903", func := "quillet/quilletlaw03.PackFrames", spec := "packFrames", apart := false }
def PackFramesSaid : Prop := packFramesRow.holds Try.pinned (OpenSpec.ofChange packFramesSpec)

/-- ITS FALSE NEIGHBOUR: 'it returns false'. Refute it at one input. -/
def packFramesWrong : ChangeSpec := { name := "packFrames", fn := fun _ => fun
  | [d1, d2] => { results := [.lit (.bool false)], args := [d1, d2] }
  | _ => none }
def PackFramesWrongFalsely : Prop := packFramesRow.holds Try.pinned (OpenSpec.ofChange packFramesWrong)

/-- 'quilletlaw03.PackStreams': WHATEVER THE INPUT: true; the input reads as it did. -/
def packStreamsSpec : ChangeSpec := { name := "packStreams", fn := fun _ => fun
  | [d1, d2] => { results := [.lit (.bool true)], args := [d1, d2] }
  | _ => none }
def packStreamsRow : OpenClaim := { program := "ytdpajcamgipgkaa", sum := "4fe87152133413ac69defc240e08d5b780f8b2c1e6ee50eb7ca9fe35bec65903", func := "quillet/quilletlaw03.PackStreams", spec := "packStreams", apart := false }
def PackStreamsSaid : Prop := packStreamsRow.holds Try.pinned (OpenSpec.ofChange packStreamsSpec)

/-- ITS FALSE NEIGHBOUR: 'it returns false'. Refute it at one input. -/
def packStreamsWrong : ChangeSpec := { name := "packStreams", fn := fun _ => fun
  | [d1, d2] => { results := [.lit (.bool false)], args := [d1, d2] }
  | _ => none }
def PackStreamsWrongFalsely : Prop := packStreamsRow.holds Try.pinned (OpenSpec.ofChange packStreamsWrong)

/-- 'quilletlaw03.PackTurns': WHATEVER THE INPUT: true; the input reads as it did. -/
def packTurnsSpec : ChangeSpec := { name := "packTurns", fn := fun _ => fun
  | [d1, d2, d3] => { results := [.lit (.bool true)], args := [d1, d2, d3] }
  | _ => none }
def packTurnsRow : OpenClaim := { program := "ytdpajcamgipgkaa", sum := "4fe87152133413ac69defc240e08d5b780f8b2c1e6ee50eb7ca9fe35bec65903", func := "quillet/quilletlaw03.PackTurns", spec := "packTurns", apart := false }
def PackTurnsSaid : Prop := packTurnsRow.holds Try.pinned (OpenSpec.ofChange packTurnsSpec)

/-- ITS FALSE NEIGHBOUR: 'it returns false'. Refute it at one input. -/
def packTurnsWrong : ChangeSpec := { name := "packTurns", fn := fun _ => fun
  | [d1, d2, d3] => { results := [.lit (.bool false)], args := [d1, d2, d3] }
  | _ => none }
def PackTurnsWrongFalsely : Prop := packTurnsRow.holds Try.pinned (OpenSpec.ofChange packTurnsWrong)

/-- 'quilletlaw03.PackFails': WHATEVER THE INPUT: true; the input reads as it did. -/
def packFailsSpec : ChangeSpec := { name := "packFails", fn := fun _ => fun
  | [d1, d2, d3] => { results := [.lit (.bool true)], args := [d1, d2, d3] }
  | _ => none }
def packFailsRow : OpenClaim := { program := "ytdpajcamgipgkaa", sum := "4fe87152133413ac69defc240e08d5b780f8b2c1e6ee50eb7ca9fe35bec65903", func := "quillet/quilletlaw03.PackFails", spec := "packFails", unfollowed := true, recurses := true, apart := false }
def PackFailsSaid : Prop := packFailsRow.holds Try.pinned (OpenSpec.ofChange packFailsSpec)

/-- ITS FALSE NEIGHBOUR: 'it returns false'. Refute it at one input. -/
def packFailsWrong : ChangeSpec := { name := "packFails", fn := fun _ => fun
  | [d1, d2, d3] => { results := [.lit (.bool false)], args := [d1, d2, d3] }
  | _ => none }
def PackFailsWrongFalsely : Prop := packFailsRow.holds Try.pinned (OpenSpec.ofChange packFailsWrong)

/-- 'quilletlaw03.PackPuts': WHATEVER THE INPUT: true; the input reads as it did. -/
def packPutsSpec : ChangeSpec := { name := "packPuts", fn := fun _ => fun
  | [d] => { results := [.lit (.bool true)], args := [d] }
  | _ => none }
def packPutsRow : OpenClaim := { program := "ytdpajcamgipgkaa", sum := "4fe87152133413ac69defc240e08d5b780f8b2c1e6ee50eb7ca9fe35bec65903", func := "quillet/quilletlaw03.PackPuts", spec := "packPuts", inPlace := ["math.Float64frombits", "math.Float64bits"], apart := false }
def PackPutsSaid : Prop := packPutsRow.holds Try.pinned (OpenSpec.ofChange packPutsSpec)

/-- ITS FALSE NEIGHBOUR: 'it returns false'. Refute it at one input. -/
def packPutsWrong : ChangeSpec := { name := "packPuts", fn := fun _ => fun
  | [d] => { results := [.lit (.bool false)], args := [d] }
  | _ => none }
def PackPutsWrongFalsely : Prop := packPutsRow.holds Try.pinned (OpenSpec.ofChange packPutsWrong)

/-- 'quilletlaw03.PackJoins': WHATEVER THE INPUT: true; the input reads as it did. -/
def packJoinsSpec : ChangeSpec := { name := "packJoins", fn := fun _ => fun
  | [d1, d2] => { results := [.lit (.bool true)], args := [d1, d2] }
  | _ => none }
def packJoinsRow : OpenClaim := { program := "ytdpajcamgipgkaa", sum := "4fe87152133413ac69defc240e08d5b780f8b2c1e6ee50eb7ca9fe35bec65903", func := "quillet/quilletlaw03.PackJoins", spec := "packJoins", inPlace := ["math.Float64frombits", "math.Float64bits"], apart := false }
def PackJoinsSaid : Prop := packJoinsRow.holds Try.pinned (OpenSpec.ofChange packJoinsSpec)

/-- ITS FALSE NEIGHBOUR: 'it returns false'. Refute it at one input. -/
def packJoinsWrong : ChangeSpec := { name := "packJoins", fn := fun _ => fun
  | [d1, d2] => { results := [.lit (.bool false)], args := [d1, d2] }
  | _ => none }
def PackJoinsWrongFalsely : Prop := packJoinsRow.holds Try.pinned (OpenSpec.ofChange packJoinsWrong)

/-- 'quilletlaw03.PackGets': WHATEVER THE INPUT: true; the input reads as it did. -/
def packGetsSpec : ChangeSpec := { name := "packGets", fn := fun _ => fun
  | [d1, d2] => { results := [.lit (.bool true)], args := [d1, d2] }
  | _ => none }
def packGetsRow : OpenClaim := { program := "ytdpajcamgipgkaa", sum := "4fe87152133413ac69defc240e08d5b780f8b2c1e6ee50eb7ca9fe35bec65903", func := "quillet/quilletlaw03.PackGets", spec := "packGets", inPlace := ["math.Float64frombits", "math.Float64bits"], unfollowed := true, recurses := true, apart := false }
def PackGetsSaid : Prop := packGetsRow.holds Try.pinned (OpenSpec.ofChange packGetsSpec)

/-- ITS FALSE NEIGHBOUR: 'it returns false'. Refute it at one input. -/
def packGetsWrong : ChangeSpec := { name := "packGets", fn := fun _ => fun
  | [d1, d2] => { results := [.lit (.bool false)], args := [d1, d2] }
  | _ => none }
def PackGetsWrongFalsely : Prop := packGetsRow.holds Try.pinned (OpenSpec.ofChange packGetsWrong)

/-- 'quilletlaw03.PackReads': WHATEVER THE INPUT: true; the input reads as it did. -/
def packReadsSpec : ChangeSpec := { name := "packReads", fn := fun _ => fun
  | [d1, d2] => { results := [.lit (.bool true)], args := [d1, d2] }
  | _ => none }
def packReadsRow : OpenClaim := { program := "ytdpajcamgipgkaa", sum := "4fe87152133413ac69defc240e08d5b780f8b2c1e6ee50eb7ca9fe35bec65903", func := "quillet/quilletlaw03.PackReads", spec := "packReads", inPlace := ["math.Float64frombits", "math.Float64bits"], unfollowed := true, recurses := true, apart := false }
def PackReadsSaid : Prop := packReadsRow.holds Try.pinned (OpenSpec.ofChange packReadsSpec)

/-- ITS FALSE NEIGHBOUR: 'it returns false'. Refute it at one input. -/
def packReadsWrong : ChangeSpec := { name := "packReads", fn := fun _ => fun
  | [d1, d2] => { results := [.lit (.bool false)], args := [d1, d2] }
  | _ => none }
def PackReadsWrongFalsely : Prop := packReadsRow.holds Try.pinned (OpenSpec.ofChange packReadsWrong)

/-- 'quilletlaw03.PackBack': WHATEVER THE INPUT: true; the input reads as it did. -/
def packBackSpec : ChangeSpec := { name := "packBack", fn := fun _ => fun
  | [d1, d2] => { results := [.lit (.bool true)], args := [d1, d2] }
  | _ => none }
def packBackRow : OpenClaim := { program := "ytdpajcamgipgkaa", sum := "4fe87152133413ac69defc240e08d5b780f8b2c1e6ee50eb7ca9fe35bec65903", func := "quillet/quilletlaw03.PackBack", spec := "packBack", inPlace := ["math.Float64frombits", "math.Float64bits"], unfollowed := true, recurses := true, apart := false }
def PackBackSaid : Prop := packBackRow.holds Try.pinned (OpenSpec.ofChange packBackSpec)

/-- ITS FALSE NEIGHBOUR: 'it returns false'. Refute it at one input. -/
def packBackWrong : ChangeSpec := { name := "packBack", fn := fun _ => fun
  | [d1, d2] => { results := [.lit (.bool false)], args := [d1, d2] }
  | _ => none }
def PackBackWrongFalsely : Prop := packBackRow.holds Try.pinned (OpenSpec.ofChange packBackWrong)

/-- 'quilletlaw03.PackOnes': WHATEVER THE INPUT: true; the input reads as it did. -/
def packOnesSpec : ChangeSpec := { name := "packOnes", fn := fun _ => fun
  | [d1, d2] => { results := [.lit (.bool true)], args := [d1, d2] }
  | _ => none }
def packOnesRow : OpenClaim := { program := "ytdpajcamgipgkaa", sum := "4fe87152133413ac69defc240e08d5b780f8b2c1e6ee50eb7ca9fe35bec65903", func := "quillet/quilletlaw03.PackOnes", spec := "packOnes", inPlace := ["math.Float64frombits", "math.Float64bits"], unfollowed := true, recurses := true, apart := false }
def PackOnesSaid : Prop := packOnesRow.holds Try.pinned (OpenSpec.ofChange packOnesSpec)

/-- ITS FALSE NEIGHBOUR: 'it returns false'. Refute it at one input. -/
def packOnesWrong : ChangeSpec := { name := "packOnes", fn := fun _ => fun
  | [d1, d2] => { results := [.lit (.bool false)], args := [d1, d2] }
  | _ => none }
def PackOnesWrongFalsely : Prop := packOnesRow.holds Try.pinned (OpenSpec.ofChange packOnesWrong)

/-- 'quilletlaw03.PackNums': WHATEVER THE INPUT: true; the input reads as it did. -/
def packNumsSpec : ChangeSpec := { name := "packNums", fn := fun _ => fun
  | [d1, d2] => { results := [.lit (.bool true)], args := [d1, d2] }
  | _ => none }
def packNumsRow : OpenClaim := { program := "ytdpajcamgipgkaa", sum := "4fe87152133413ac69defc240e08d5b780f8b2c1e6ee50eb7ca9fe35bec65903", func := "quillet/quilletlaw03.PackNums", spec := "packNums", inPlace := ["math.Float64frombits", "math.Float64bits"], unfollowed := true, recurses := true, apart := false }
def PackNumsSaid : Prop := packNumsRow.holds Try.pinned (OpenSpec.ofChange packNumsSpec)

/-- ITS FALSE NEIGHBOUR: 'it returns false'. Refute it at one input. -/
def packNumsWrong : ChangeSpec := { name := "packNums", fn := fun _ => fun
  | [d1, d2] => { results := [.lit (.bool false)], args := [d1, d2] }
  | _ => none }
def PackNumsWrongFalsely : Prop := packNumsRow.holds Try.pinned (OpenSpec.ofChange packNumsWrong)

/- THE SECOND FORM. 'bulk': how many values and letters a reading holds, each counted each time it is reached (what is shared counts as often as it is met; a slice's spare places count too). A statement '..UptoSaid' is the law's where the arguments, and the package variables that the reading takes, are together of bulk at most 1048576: NARROWER than '..Said'. Prove '..Said' where nothing that the law and all that it calls make is longer than what came in: it says more and counts as full. Else prove '..UptoSaid'. A law counts once. -/
mutual
def uptoBulk {H : Type} : DataW H → Nat
  | .lit (.string bytes) => bytes.length + 1
  | .lit _ => 1
  | .nil => 1
  | .ptr d => uptoBulk d + 1
  | .slice elems spare => uptoBulkAll elems + uptoBulkAll spare + 1
  | .agg parts => uptoBulkAll parts + 1
  | .iface _ d => uptoBulk d + 1
  | .map entries => uptoBulkEntries entries + 1
  | .held _ => 1
def uptoBulkAll {H : Type} : List (DataW H) → Nat
  | [] => 0
  | d :: r => uptoBulk d + uptoBulkAll r
def uptoBulkEntries {H : Type} : List (Lit × DataW H) → Nat
  | [] => 0
  | x :: r => uptoBulkEntry x + uptoBulkEntries r
def uptoBulkEntry {H : Type} : Lit × DataW H → Nat
  | (.string bytes, d) => bytes.length + uptoBulk d + 1
  | (_, d) => uptoBulk d + 1
 end
def uptoSmall : (H : Type) → List (DataW H) → Bool := fun _ ds => decide (uptoBulkAll ds ≤ 1048576)
def OpenSpec.upto (s : _root_.Go.ChangeSpec) : _root_.Go.OpenSpec := { _root_.Go.OpenSpec.ofChange s with cond := some uptoSmall }

/-- 'quilletlaw03.PackSums', WHERE WHAT IT READS IS OF BULK AT MOST 1048576: true; the input reads as it did. -/
def packSumsUptoRow : OpenClaim := { program := "ytdpajcamgipgkaa", sum := "4fe87152133413ac69defc240e08d5b780f8b2c1e6ee50eb7ca9fe35bec65903", func := "quillet/quilletlaw03.PackSums", spec := "packSums", apart := false, narrowed := true }
def PackSumsUptoSaid : Prop := packSumsUptoRow.holds Try.pinned (OpenSpec.upto packSumsSpec)

/-- 'quilletlaw03.PackBits', WHERE WHAT IT READS IS OF BULK AT MOST 1048576: true; the input reads as it did. -/
def packBitsUptoRow : OpenClaim := { program := "ytdpajcamgipgkaa", sum := "4fe87152133413ac69defc240e08d5b780f8b2c1e6ee50eb7ca9fe35bec65903", func := "quillet/quilletlaw03.PackBits", spec := "packBits", apart := false, narrowed := true }
def PackBitsUptoSaid : Prop := packBitsUptoRow.holds Try.pinned (OpenSpec.upto packBitsSpec)

/-- 'quilletlaw03.PackFrames', WHERE WHAT IT READS IS OF BULK AT MOST 1048576: true; the input reads as it did. -/
def packFramesUptoRow : OpenClaim := { program := "ytdpajcamgipgkaa", sum := "4fe87152133413ac69defc240e08d5b780f8b2c1e6ee50eb7ca9fe35bec65903", func := "quillet/quilletlaw03.PackFrames", spec := "packFrames", apart := false, narrowed := true }
def PackFramesUptoSaid : Prop := packFramesUptoRow.holds Try.pinned (OpenSpec.upto packFramesSpec)

/-- 'quilletlaw03.PackStreams', WHERE WHAT IT READS IS OF BULK AT MOST 1048576: true; the input reads as it did. -/
def packStreamsUptoRow : OpenClaim := { program := "ytdpajcamgipgkaa", sum := "4fe87152133413ac69defc240e08d5b780f8b2c1e6ee50eb7ca9fe35bec65903", func := "quillet/quilletlaw03.PackStreams", spec := "packStreams", apart := false, narrowed := true }
def PackStreamsUptoSaid : Prop := packStreamsUptoRow.holds Try.pinned (OpenSpec.upto packStreamsSpec)

/-- 'quilletlaw03.PackTurns', WHERE WHAT IT READS IS OF BULK AT MOST 1048576: true; the input reads as it did. -/
def packTurnsUptoRow : OpenClaim := { program := "ytdpajcamgipgkaa", sum := "4fe87152133413ac69defc240e08d5b780f8b2c1e6ee50eb7ca9fe35bec65903", func := "quillet/quilletlaw03.PackTurns", spec := "packTurns", apart := false, narrowed := true }
def PackTurnsUptoSaid : Prop := packTurnsUptoRow.holds Try.pinned (OpenSpec.upto packTurnsSpec)

/-- 'quilletlaw03.PackFails', WHERE WHAT IT READS IS OF BULK AT MOST 1048576: true; the input reads as it did. -/
def packFailsUptoRow : OpenClaim := { program := "ytdpajcamgipgkaa", sum := "4fe87152133413ac69defc240e08d5b780f8b2c1e6ee50eb7ca9fe35bec65903", func := "quillet/quilletlaw03.PackFails", spec := "packFails", unfollowed := true, recurses := true, apart := false, narrowed := true }
def PackFailsUptoSaid : Prop := packFailsUptoRow.holds Try.pinned (OpenSpec.upto packFailsSpec)

/-- 'quilletlaw03.PackPuts', WHERE WHAT IT READS IS OF BULK AT MOST 1048576: true; the input reads as it did. -/
def packPutsUptoRow : OpenClaim := { program := "ytdpajcamgipgkaa", sum := "4fe87152133413ac69defc240e08d5b780f8b2c1e6ee50eb7ca9fe35bec65903", func := "quillet/quilletlaw03.PackPuts", spec := "packPuts", inPlace := ["math.Float64frombits", "math.Float64bits"], apart := false, narrowed := true }
def PackPutsUptoSaid : Prop := packPutsUptoRow.holds Try.pinned (OpenSpec.upto packPutsSpec)

/-- 'quilletlaw03.PackJoins', WHERE WHAT IT READS IS OF BULK AT MOST 1048576: true; the input reads as it did. -/
def packJoinsUptoRow : OpenClaim := { program := "ytdpajcamgipgkaa", sum := "4fe87152133413ac69defc240e08d5b780f8b2c1e6ee50eb7ca9fe35bec65903", func := "quillet/quilletlaw03.PackJoins", spec := "packJoins", inPlace := ["math.Float64frombits", "math.Float64bits"], apart := false, narrowed := true }
def PackJoinsUptoSaid : Prop := packJoinsUptoRow.holds Try.pinned (OpenSpec.upto packJoinsSpec)

/-- 'quilletlaw03.PackGets', WHERE WHAT IT READS IS OF BULK AT MOST 1048576: true; the input reads as it did. -/
def packGetsUptoRow : OpenClaim := { program := "ytdpajcamgipgkaa", sum := "4fe87152133413ac69defc240e08d5b780f8b2c1e6ee50eb7ca9fe35bec65903", func := "quillet/quilletlaw03.PackGets", spec := "packGets", inPlace := ["math.Float64frombits", "math.Float64bits"], unfollowed := true, recurses := true, apart := false, narrowed := true }
def PackGetsUptoSaid : Prop := packGetsUptoRow.holds Try.pinned (OpenSpec.upto packGetsSpec)

/-- 'quilletlaw03.PackReads', WHERE WHAT IT READS IS OF BULK AT MOST 1048576: true; the input reads as it did. -/
def packReadsUptoRow : OpenClaim := { program := "ytdpajcamgipgkaa", sum := "4fe87152133413ac69defc240e08d5b780f8b2c1e6ee50eb7ca9fe35bec65903", func := "quillet/quilletlaw03.PackReads", spec := "packReads", inPlace := ["math.Float64frombits", "math.Float64bits"], unfollowed := true, recurses := true, apart := false, narrowed := true }
def PackReadsUptoSaid : Prop := packReadsUptoRow.holds Try.pinned (OpenSpec.upto packReadsSpec)

/-- 'quilletlaw03.PackBack', WHERE WHAT IT READS IS OF BULK AT MOST 1048576: true; the input reads as it did. -/
def packBackUptoRow : OpenClaim := { program := "ytdpajcamgipgkaa", sum := "4fe87152133413ac69defc240e08d5b780f8b2c1e6ee50eb7ca9fe35bec65903", func := "quillet/quilletlaw03.PackBack", spec := "packBack", inPlace := ["math.Float64frombits", "math.Float64bits"], unfollowed := true, recurses := true, apart := false, narrowed := true }
def PackBackUptoSaid : Prop := packBackUptoRow.holds Try.pinned (OpenSpec.upto packBackSpec)

/-- 'quilletlaw03.PackOnes', WHERE WHAT IT READS IS OF BULK AT MOST 1048576: true; the input reads as it did. -/
def packOnesUptoRow : OpenClaim := { program := "ytdpajcamgipgkaa", sum := "4fe87152133413ac69defc240e08d5b780f8b2c1e6ee50eb7ca9fe35bec65903", func := "quillet/quilletlaw03.PackOnes", spec := "packOnes", inPlace := ["math.Float64frombits", "math.Float64bits"], unfollowed := true, recurses := true, apart := false, narrowed := true }
def PackOnesUptoSaid : Prop := packOnesUptoRow.holds Try.pinned (OpenSpec.upto packOnesSpec)

/-- 'quilletlaw03.PackNums', WHERE WHAT IT READS IS OF BULK AT MOST 1048576: true; the input reads as it did. -/
def packNumsUptoRow : OpenClaim := { program := "ytdpajcamgipgkaa", sum := "4fe87152133413ac69defc240e08d5b780f8b2c1e6ee50eb7ca9fe35bec65903", func := "quillet/quilletlaw03.PackNums", spec := "packNums", inPlace := ["math.Float64frombits", "math.Float64bits"], unfollowed := true, recurses := true, apart := false, narrowed := true }
def PackNumsUptoSaid : Prop := packNumsUptoRow.holds Try.pinned (OpenSpec.upto packNumsSpec)

end Rows
end Go.Proofs.Ytdpajcamgipgkaa
