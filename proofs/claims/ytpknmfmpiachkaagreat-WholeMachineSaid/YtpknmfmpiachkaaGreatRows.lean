/-
  No cell of these rows narrows 'for every input' (looked for: loops, veiled, ifaces, maps, wideKeys, modest, calm, conditions, laid).
  DERIVED. THE GIVEN ROWS OF THIS SEAT. 3 by the template 'for every input the law returns true; each argument reads behind the call as it read before'; 0 by the template 'total and deterministic' (their statements: YtpknmfmpiachkaaGreatTotals.lean).
  GIVEN WITH THE SEED: the statements are not yours to turn. If you find one false, say at which input.
  Laid BY PROGRAM, IN A SANDBOX (cutbox-rows.mjs): the forced cells as the released guide's own fill.sh prints them over the translation 91fdc6fe61bd04bc… (all of the seat's roots in one cut). By AI agents, Wed Nov 11 2026. No macro, syntax, notation, axiom, sorry.
-/
import Derived.Test.YtpknmfmpiachkaaGreatChecked
import GoSem.Claim
import GoSem.ClaimJoined
import GoSem.ClaimMapViews
import Derived.JoinedTies
import Derived.KernelRfl
namespace Go.Proofs.YtpknmfmpiachkaaGreat
/- THE CELL 'sum', in the pinned program and in every row, IS THE sha256 OF THE DUMP (.gsa) THAT YtpknmfmpiachkaaGreatProg.lean LOADS. Nothing in Lean hashes anything: it is a label: what it is worth is what the hold of that sum in a sandbox is worth. -/
noncomputable def Tryz.pinned : Pinned := { name := "ytpknmfmpiachkaagreat", sum := "91fdc6fe61bd04bc4e3bb49a9ba53d6af88c3496e15645803185ec1589d9e985", checked := Tryz.checked }
namespace Rows
def none {H : Type} : Left H := { results := [], args := [] }

/-- 'quillettop.WholeSums': WHATEVER THE INPUT: true; the input reads as it did. -/
def wholeSumsSpec : ChangeSpec := { name := "wholeSums", fn := fun _ => fun
  | [d1, d2, d3] => { results := [.lit (.bool true)], args := [d1, d2, d3] }
  | _ => none }
def wholeSumsRow : OpenClaim := { program := "ytpknmfmpiachkaagreat", sum := "91fdc6fe61bd04bc4e3bb49a9ba53d6af88c3496e15645803185ec1589d9e985", func := "quillet/quillettop.WholeSums", spec := "wholeSums", inPlace := ["math.Float64frombits", "math.Float64bits", "slices.overlaps[quillet/vers.Item]", "slices.overlaps[quillet/preds.Item]"], unfollowed := true, recurses := true, apart := false }
def WholeSumsSaid : Prop := wholeSumsRow.holds Tryz.pinned (OpenSpec.ofChange wholeSumsSpec)

/-- ITS FALSE NEIGHBOUR: 'it returns false'. Refute it at one input. -/
def wholeSumsWrong : ChangeSpec := { name := "wholeSums", fn := fun _ => fun
  | [d1, d2, d3] => { results := [.lit (.bool false)], args := [d1, d2, d3] }
  | _ => none }
def WholeSumsWrongFalsely : Prop := wholeSumsRow.holds Tryz.pinned (OpenSpec.ofChange wholeSumsWrong)

/-- 'quillettop.WholeCert': WHATEVER THE INPUT: true; the input reads as it did. -/
def wholeCertSpec : ChangeSpec := { name := "wholeCert", fn := fun _ => fun
  | [d1, d2, d3] => { results := [.lit (.bool true)], args := [d1, d2, d3] }
  | _ => none }
def wholeCertRow : OpenClaim := { program := "ytpknmfmpiachkaagreat", sum := "91fdc6fe61bd04bc4e3bb49a9ba53d6af88c3496e15645803185ec1589d9e985", func := "quillet/quillettop.WholeCert", spec := "wholeCert", inPlace := ["math.Float64frombits", "math.Float64bits", "slices.overlaps[quillet/vers.Item]", "slices.overlaps[quillet/preds.Item]"], unfollowed := true, recurses := true, apart := false }
def WholeCertSaid : Prop := wholeCertRow.holds Tryz.pinned (OpenSpec.ofChange wholeCertSpec)

/-- ITS FALSE NEIGHBOUR: 'it returns false'. Refute it at one input. -/
def wholeCertWrong : ChangeSpec := { name := "wholeCert", fn := fun _ => fun
  | [d1, d2, d3] => { results := [.lit (.bool false)], args := [d1, d2, d3] }
  | _ => none }
def WholeCertWrongFalsely : Prop := wholeCertRow.holds Tryz.pinned (OpenSpec.ofChange wholeCertWrong)

/-- 'quillettop.WholeMachine': WHATEVER THE INPUT: true; the input reads as it did. -/
def wholeMachineSpec : ChangeSpec := { name := "wholeMachine", fn := fun _ => fun
  | [d1, d2, d3, d4] => { results := [.lit (.bool true)], args := [d1, d2, d3, d4] }
  | _ => none }
def wholeMachineRow : OpenClaim := { program := "ytpknmfmpiachkaagreat", sum := "91fdc6fe61bd04bc4e3bb49a9ba53d6af88c3496e15645803185ec1589d9e985", func := "quillet/quillettop.WholeMachine", spec := "wholeMachine", inPlace := ["math.Float64frombits", "math.Float64bits", "slices.overlaps[quillet/vers.Item]", "slices.overlaps[quillet/preds.Item]", "slices.overlaps[quillet/sess.Item]"], unfollowed := true, recurses := true, apart := false }
def WholeMachineSaid : Prop := wholeMachineRow.holds Tryz.pinned (OpenSpec.ofChange wholeMachineSpec)

/-- ITS FALSE NEIGHBOUR: 'it returns false'. Refute it at one input. -/
def wholeMachineWrong : ChangeSpec := { name := "wholeMachine", fn := fun _ => fun
  | [d1, d2, d3, d4] => { results := [.lit (.bool false)], args := [d1, d2, d3, d4] }
  | _ => none }
def WholeMachineWrongFalsely : Prop := wholeMachineRow.holds Tryz.pinned (OpenSpec.ofChange wholeMachineWrong)

/- THE SECOND FORM. 'bulk': how many values and letters a reading holds, each counted each time it is reached (what is shared counts as often as it is met; a slice's spare places count too). A statement '..UptoSaid' is the law's where the arguments, and the package variables that the reading takes, are together of bulk at most 1048576: NARROWER than '..Said'. Prove '..Said' where nothing that the law and all that it calls make is longer than what came in: it says more and counts as full. Else prove '..UptoSaid'. A law counts once. -/
mutual
def uptoBulk {H : Type} : DataW H → Nat
  | .lit (.string bytes) => bytes.length + 1
  | .lit _ => 1
  | .nil => 1
  | .ptr d => uptoBulk d + 1
  | .slice elems spare => uptoBulkAll elems + uptoBulkAll spare + 1
  | .agg parts => uptoBulkAll parts + 1
  | .iface _ d => uptoBulk d + 1
  | .map entries => uptoBulkEntries entries + 1
  | .held _ => 1
def uptoBulkAll {H : Type} : List (DataW H) → Nat
  | [] => 0
  | d :: r => uptoBulk d + uptoBulkAll r
def uptoBulkEntries {H : Type} : List (Lit × DataW H) → Nat
  | [] => 0
  | x :: r => uptoBulkEntry x + uptoBulkEntries r
def uptoBulkEntry {H : Type} : Lit × DataW H → Nat
  | (.string bytes, d) => bytes.length + uptoBulk d + 1
  | (_, d) => uptoBulk d + 1
 end
def uptoSmall : (H : Type) → List (DataW H) → Bool := fun _ ds => decide (uptoBulkAll ds ≤ 1048576)
def OpenSpec.upto (s : _root_.Go.ChangeSpec) : _root_.Go.OpenSpec := { _root_.Go.OpenSpec.ofChange s with cond := some uptoSmall }

/-- 'quillettop.WholeSums', WHERE WHAT IT READS IS OF BULK AT MOST 1048576: true; the input reads as it did. -/
def wholeSumsUptoRow : OpenClaim := { program := "ytpknmfmpiachkaagreat", sum := "91fdc6fe61bd04bc4e3bb49a9ba53d6af88c3496e15645803185ec1589d9e985", func := "quillet/quillettop.WholeSums", spec := "wholeSums", inPlace := ["math.Float64frombits", "math.Float64bits", "slices.overlaps[quillet/vers.Item]", "slices.overlaps[quillet/preds.Item]"], unfollowed := true, recurses := true, apart := false, narrowed := true }
def WholeSumsUptoSaid : Prop := wholeSumsUptoRow.holds Tryz.pinned (OpenSpec.upto wholeSumsSpec)

/-- 'quillettop.WholeCert', WHERE WHAT IT READS IS OF BULK AT MOST 1048576: true; the input reads as it did. -/
def wholeCertUptoRow : OpenClaim := { program := "ytpknmfmpiachkaagreat", sum := "91fdc6fe61bd04bc4e3bb49a9ba53d6af88c3496e15645803185ec1589d9e985", func := "quillet/quillettop.WholeCert", spec := "wholeCert", inPlace := ["math.Float64frombits", "math.Float64bits", "slices.overlaps[quillet/vers.Item]", "slices.overlaps[quillet/preds.Item]"], unfollowed := true, recurses := true, apart := false, narrowed := true }
def WholeCertUptoSaid : Prop := wholeCertUptoRow.holds Tryz.pinned (OpenSpec.upto wholeCertSpec)

/-- 'quillettop.WholeMachine', WHERE WHAT IT READS IS OF BULK AT MOST 1048576: true; the input reads as it did. -/
def wholeMachineUptoRow : OpenClaim := { program := "ytpknmfmpiachkaagreat", sum := "91fdc6fe61bd04bc4e3bb49a9ba53d6af88c3496e15645803185ec1589d9e985", func := "quillet/quillettop.WholeMachine", spec := "wholeMachine", inPlace := ["math.Float64frombits", "math.Float64bits", "slices.overlaps[quillet/vers.Item]", "slices.overlaps[quillet/preds.Item]", "slices.overlaps[quillet/sess.Item]"], unfollowed := true, recurses := true, apart := false, narrowed := true }
def WholeMachineUptoSaid : Prop := wholeMachineUptoRow.holds Tryz.pinned (OpenSpec.upto wholeMachineSpec)

end Rows
end Go.Proofs.YtpknmfmpiachkaaGreat
