/-
  No cell of these rows narrows 'for every input' (looked for: loops, veiled, ifaces, maps, wideKeys, modest, calm, conditions, laid).
  DERIVED. THE GIVEN ROWS OF THIS SEAT. 4 by the template 'for every input the law returns true; each argument reads behind the call as it read before'; 0 by the template 'total and deterministic' (their statements: YtpaommkjafdghaaTotals.lean).
  GIVEN WITH THE SEED: the statements are not yours to turn. If you find one false, say at which input.
  Laid BY PROGRAM, IN A SANDBOX (cutbox-rows.mjs): the forced cells as the released guide's own fill.sh prints them over the translation 2cb0c70471e1a494… (all of the seat's roots in one cut). By AI agents, Wed Nov 11 2026. No macro, syntax, notation, axiom, sorry.
-/
import Derived.Test.YtpaommkjafdghaaChecked
import GoSem.Claim
import GoSem.ClaimJoined
import GoSem.ClaimMapViews
import Derived.JoinedTies
import Derived.KernelRfl
namespace Go.Proofs.Ytpaommkjafdghaa
/- THE CELL 'sum', in the pinned program and in every row, IS THE sha256 OF THE DUMP (.gsa) THAT YtpaommkjafdghaaProg.lean LOADS. Nothing in Lean hashes anything: it is a label: what it is worth is what the hold of that sum in a sandbox is worth. -/
noncomputable def Try.pinned : Pinned := { name := "ytpaommkjafdghaa", sum := "2cb0c70471e1a4946aa79abcd0406d3a63238565b4371f303e8dac7bbcc04a5d", checked := Try.checked }
namespace Rows
def none {H : Type} : Left H := { results := [], args := [] }

/-- 'quilletlaw16.RlogDrops': WHATEVER THE INPUT: true; the input reads as it did. -/
def rlogDropsSpec : ChangeSpec := { name := "rlogDrops", fn := fun _ => fun
  | [d1, d2, d3] => { results := [.lit (.bool true)], args := [d1, d2, d3] }
  | _ => none }
def rlogDropsRow : OpenClaim := { program := "ytpaommkjafdghaa", sum := "2cb0c70471e1a4946aa79abcd0406d3a63238565b4371f303e8dac7bbcc04a5d", func := "quillet/quilletlaw16.RlogDrops", spec := "rlogDrops", unfollowed := true, recurses := true, apart := false }
def RlogDropsSaid : Prop := rlogDropsRow.holds Try.pinned (OpenSpec.ofChange rlogDropsSpec)

/-- ITS FALSE NEIGHBOUR: 'it returns false'. Refute it at one input. -/
def rlogDropsWrong : ChangeSpec := { name := "rlogDrops", fn := fun _ => fun
  | [d1, d2, d3] => { results := [.lit (.bool false)], args := [d1, d2, d3] }
  | _ => none }
def RlogDropsWrongFalsely : Prop := rlogDropsRow.holds Try.pinned (OpenSpec.ofChange rlogDropsWrong)

/-- 'quilletlaw16.RlogNewer': WHATEVER THE INPUT: true; the input reads as it did. -/
def rlogNewerSpec : ChangeSpec := { name := "rlogNewer", fn := fun _ => fun
  | [d1, d2, d3] => { results := [.lit (.bool true)], args := [d1, d2, d3] }
  | _ => none }
def rlogNewerRow : OpenClaim := { program := "ytpaommkjafdghaa", sum := "2cb0c70471e1a4946aa79abcd0406d3a63238565b4371f303e8dac7bbcc04a5d", func := "quillet/quilletlaw16.RlogNewer", spec := "rlogNewer", unfollowed := true, recurses := true, apart := false }
def RlogNewerSaid : Prop := rlogNewerRow.holds Try.pinned (OpenSpec.ofChange rlogNewerSpec)

/-- ITS FALSE NEIGHBOUR: 'it returns false'. Refute it at one input. -/
def rlogNewerWrong : ChangeSpec := { name := "rlogNewer", fn := fun _ => fun
  | [d1, d2, d3] => { results := [.lit (.bool false)], args := [d1, d2, d3] }
  | _ => none }
def RlogNewerWrongFalsely : Prop := rlogNewerRow.holds Try.pinned (OpenSpec.ofChange rlogNewerWrong)

/-- 'quilletlaw16.RlogPlays': WHATEVER THE INPUT: true; the input reads as it did. -/
def rlogPlaysSpec : ChangeSpec := { name := "rlogPlays", fn := fun _ => fun
  | [d1, d2, d3, d4, d5, d6] => { results := [.lit (.bool true)], args := [d1, d2, d3, d4, d5, d6] }
  | _ => none }
def rlogPlaysRow : OpenClaim := { program := "ytpaommkjafdghaa", sum := "2cb0c70471e1a4946aa79abcd0406d3a63238565b4371f303e8dac7bbcc04a5d", func := "quillet/quilletlaw16.RlogPlays", spec := "rlogPlays", unfollowed := true, recurses := true, apart := false }
def RlogPlaysSaid : Prop := rlogPlaysRow.holds Try.pinned (OpenSpec.ofChange rlogPlaysSpec)

/-- ITS FALSE NEIGHBOUR: 'it returns false'. Refute it at one input. -/
def rlogPlaysWrong : ChangeSpec := { name := "rlogPlays", fn := fun _ => fun
  | [d1, d2, d3, d4, d5, d6] => { results := [.lit (.bool false)], args := [d1, d2, d3, d4, d5, d6] }
  | _ => none }
def RlogPlaysWrongFalsely : Prop := rlogPlaysRow.holds Try.pinned (OpenSpec.ofChange rlogPlaysWrong)

/-- 'quilletlaw16.RlogSound': WHATEVER THE INPUT: true; the input reads as it did. -/
def rlogSoundSpec : ChangeSpec := { name := "rlogSound", fn := fun _ => fun
  | [d1, d2, d3, d4] => { results := [.lit (.bool true)], args := [d1, d2, d3, d4] }
  | _ => none }
def rlogSoundRow : OpenClaim := { program := "ytpaommkjafdghaa", sum := "2cb0c70471e1a4946aa79abcd0406d3a63238565b4371f303e8dac7bbcc04a5d", func := "quillet/quilletlaw16.RlogSound", spec := "rlogSound", unfollowed := true, recurses := true, apart := false }
def RlogSoundSaid : Prop := rlogSoundRow.holds Try.pinned (OpenSpec.ofChange rlogSoundSpec)

/-- ITS FALSE NEIGHBOUR: 'it returns false'. Refute it at one input. -/
def rlogSoundWrong : ChangeSpec := { name := "rlogSound", fn := fun _ => fun
  | [d1, d2, d3, d4] => { results := [.lit (.bool false)], args := [d1, d2, d3, d4] }
  | _ => none }
def RlogSoundWrongFalsely : Prop := rlogSoundRow.holds Try.pinned (OpenSpec.ofChange rlogSoundWrong)

/- THE SECOND FORM. 'bulk': how many values and letters a reading holds, each counted each time it is reached (what is shared counts as often as it is met; a slice's spare places count too). A statement '..UptoSaid' is the law's where the arguments, and the package variables that the reading takes, are together of bulk at most 1048576: NARROWER than '..Said'. Prove '..Said' where nothing that the law and all that it calls make is longer than what came in: it says more and counts as full. Else prove '..UptoSaid'. A law counts once. -/
mutual
def uptoBulk {H : Type} : DataW H → Nat
  | .lit (.string bytes) => bytes.length + 1
  | .lit _ => 1
  | .nil => 1
  | .ptr d => uptoBulk d + 1
  | .slice elems spare => uptoBulkAll elems + uptoBulkAll spare + 1
  | .agg parts => uptoBulkAll parts + 1
  | .iface _ d => uptoBulk d + 1
  | .map entries => uptoBulkEntries entries + 1
  | .held _ => 1
def uptoBulkAll {H : Type} : List (DataW H) → Nat
  | [] => 0
  | d :: r => uptoBulk d + uptoBulkAll r
def uptoBulkEntries {H : Type} : List (Lit × DataW H) → Nat
  | [] => 0
  | x :: r => uptoBulkEntry x + uptoBulkEntries r
def uptoBulkEntry {H : Type} : Lit × DataW H → Nat
  | (.string bytes, d) => bytes.length + uptoBulk d + 1
  | (_, d) => uptoBulk d + 1
 end
def uptoSmall : (H : Type) → List (DataW H) → Bool := fun _ ds => decide (uptoBulkAll ds ≤ 1048576)
def OpenSpec.upto (s : _root_.Go.ChangeSpec) : _root_.Go.OpenSpec := { _root_.Go.OpenSpec.ofChange s with cond := some uptoSmall }

/-- 'quilletlaw16.RlogDrops', WHERE WHAT IT READS IS OF BULK AT MOST 1048576: true; the input reads as it did. -/
def rlogDropsUptoRow : OpenClaim := { program := "ytpaommkjafdghaa", sum := "2cb0c70471e1a4946aa79abcd0406d3a63238565b4371f303e8dac7bbcc04a5d", func := "quillet/quilletlaw16.RlogDrops", spec := "rlogDrops", unfollowed := true, recurses := true, apart := false, narrowed := true }
def RlogDropsUptoSaid : Prop := rlogDropsUptoRow.holds Try.pinned (OpenSpec.upto rlogDropsSpec)

/-- 'quilletlaw16.RlogNewer', WHERE WHAT IT READS IS OF BULK AT MOST 1048576: true; the input reads as it did. -/
def rlogNewerUptoRow : OpenClaim := { program := "ytpaommkjafdghaa", sum := "2cb0c70471e1a4946aa79abcd0406d3a63238565b4371f303e8dac7bbcc04a5d", func := "quillet/quilletlaw16.RlogNewer", spec := "rlogNewer", unfollowed := true, recurses := true, apart := false, narrowed := true }
def RlogNewerUptoSaid : Prop := rlogNewerUptoRow.holds Try.pinned (OpenSpec.upto rlogNewerSpec)

/-- 'quilletlaw16.RlogPlays', WHERE WHAT IT READS IS OF BULK AT MOST 1048576: true; the input reads as it did. -/
def rlogPlaysUptoRow : OpenClaim := { program := "ytpaommkjafdghaa", sum := "2cb0c70471e1a4946aa79abcd0406d3a63238565b4371f303e8dac7bbcc04a5d", func := "quillet/quilletlaw16.RlogPlays", spec := "rlogPlays", unfollowed := true, recurses := true, apart := false, narrowed := true }
def RlogPlaysUptoSaid : Prop := rlogPlaysUptoRow.holds Try.pinned (OpenSpec.upto rlogPlaysSpec)

/-- 'quilletlaw16.RlogSound', WHERE WHAT IT READS IS OF BULK AT MOST 1048576: true; the input reads as it did. -/
def rlogSoundUptoRow : OpenClaim := { program := "ytpaommkjafdghaa", sum := "2cb0c70471e1a4946aa79abcd0406d3a63238565b4371f303e8dac7bbcc04a5d", func := "quillet/quilletlaw16.RlogSound", spec := "rlogSound", unfollowed := true, recurses := true, apart := false, narrowed := true }
def RlogSoundUptoSaid : Prop := rlogSoundUptoRow.holds Try.pinned (OpenSpec.upto rlogSoundSpec)

end Rows
end Go.Proofs.Ytpaommkjafdghaa
