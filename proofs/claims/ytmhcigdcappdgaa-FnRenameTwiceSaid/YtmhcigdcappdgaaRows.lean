/-
  No cell of these rows narrows 'for every input' (looked for: loops, veiled, ifaces, maps, wideKeys, modest, calm, conditions, laid).
  DERIVED. THE GIVEN ROWS OF THIS SEAT. 3 by the template 'for every input the law returns true; each argument reads behind the call as it read before'; 0 by the template 'total and deterministic' (their statements: YtmhcigdcappdgaaTotals.lean).
  GIVEN WITH THE SEED: the statements are not yours to turn. If you find one false, say at which input.
  Laid BY PROGRAM, IN A SANDBOX (cutbox-rows.mjs): the forced cells as the released guide's own fill.sh prints them over the translation 6d92f2bfd32961dc… (all of the seat's roots in one cut). By AI agents, Wed Nov 11 2026. No macro, syntax, notation, axiom, sorry.
-/
import Derived.Test.YtmhcigdcappdgaaChecked
import GoSem.Claim
import GoSem.ClaimJoined
import GoSem.ClaimMapViews
import Derived.JoinedTies
import Derived.KernelRfl
namespace Go.Proofs.Ytmhcigdcappdgaa
/- THE CELL 'sum', in the pinned program and in every row, IS THE sha256 OF THE DUMP (.gsa) THAT YtmhcigdcappdgaaProg.lean LOADS. Nothing in Lean hashes anything: it is a label: what it is worth is what the hold of that sum in a sandbox is worth. -/
noncomputable def Try.pinned : Pinned := { name := "ytmhcigdcappdgaa", sum := "6d92f2bfd32961dc7a2b9c2d6e3a112f7909b667366db58a7b00dc59e270cd91", checked := Try.checked }
namespace Rows
def none {H : Type} : Left H := { results := [], args := [] }

/-- 'laws.FnCountName': WHATEVER THE INPUT: true; the input reads as it did. -/
def fnCountNameSpec : ChangeSpec := { name := "fnCountName", fn := fun _ => fun
  | [d] => { results := [.lit (.bool true)], args := [d] }
  | _ => none }
def fnCountNameRow : OpenClaim := { program := "ytmhcigdcappdgaa", sum := "6d92f2bfd32961dc7a2b9c2d6e3a112f7909b667366db58a7b00dc59e270cd91", func := "loop.example/macroexpander/laws.FnCountName", spec := "fnCountName", unfollowed := true, recurses := true, apart := false }
def FnCountNameSaid : Prop := fnCountNameRow.holds Try.pinned (OpenSpec.ofChange fnCountNameSpec)

/-- ITS FALSE NEIGHBOUR: 'it returns false'. Refute it at one input. -/
def fnCountNameWrong : ChangeSpec := { name := "fnCountName", fn := fun _ => fun
  | [d] => { results := [.lit (.bool false)], args := [d] }
  | _ => none }
def FnCountNameWrongFalsely : Prop := fnCountNameRow.holds Try.pinned (OpenSpec.ofChange fnCountNameWrong)

/-- 'laws.FnRenameTwice': WHATEVER THE INPUT: true; the input reads as it did. -/
def fnRenameTwiceSpec : ChangeSpec := { name := "fnRenameTwice", fn := fun _ => fun
  | [d] => { results := [.lit (.bool true)], args := [d] }
  | _ => none }
def fnRenameTwiceRow : OpenClaim := { program := "ytmhcigdcappdgaa", sum := "6d92f2bfd32961dc7a2b9c2d6e3a112f7909b667366db58a7b00dc59e270cd91", func := "loop.example/macroexpander/laws.FnRenameTwice", spec := "fnRenameTwice", inPlace := ["internal/bytealg.IndexByteString"], unfollowed := true, recurses := true, apart := false }
def FnRenameTwiceSaid : Prop := fnRenameTwiceRow.holds Try.pinned (OpenSpec.ofChange fnRenameTwiceSpec)

/-- ITS FALSE NEIGHBOUR: 'it returns false'. Refute it at one input. -/
def fnRenameTwiceWrong : ChangeSpec := { name := "fnRenameTwice", fn := fun _ => fun
  | [d] => { results := [.lit (.bool false)], args := [d] }
  | _ => none }
def FnRenameTwiceWrongFalsely : Prop := fnRenameTwiceRow.holds Try.pinned (OpenSpec.ofChange fnRenameTwiceWrong)

/-- 'laws.FnRenameName': WHATEVER THE INPUT: true; the input reads as it did. -/
def fnRenameNameSpec : ChangeSpec := { name := "fnRenameName", fn := fun _ => fun
  | [d] => { results := [.lit (.bool true)], args := [d] }
  | _ => none }
def fnRenameNameRow : OpenClaim := { program := "ytmhcigdcappdgaa", sum := "6d92f2bfd32961dc7a2b9c2d6e3a112f7909b667366db58a7b00dc59e270cd91", func := "loop.example/macroexpander/laws.FnRenameName", spec := "fnRenameName", inPlace := ["internal/bytealg.IndexByteString"], unfollowed := true, recurses := true, apart := false }
def FnRenameNameSaid : Prop := fnRenameNameRow.holds Try.pinned (OpenSpec.ofChange fnRenameNameSpec)

/-- ITS FALSE NEIGHBOUR: 'it returns false'. Refute it at one input. -/
def fnRenameNameWrong : ChangeSpec := { name := "fnRenameName", fn := fun _ => fun
  | [d] => { results := [.lit (.bool false)], args := [d] }
  | _ => none }
def FnRenameNameWrongFalsely : Prop := fnRenameNameRow.holds Try.pinned (OpenSpec.ofChange fnRenameNameWrong)

/- THE SECOND FORM. 'bulk': how many values and letters a reading holds, each counted each time it is reached (what is shared counts as often as it is met; a slice's spare places count too). A statement '..UptoSaid' is the law's where the arguments, and the package variables that the reading takes, are together of bulk at most 1048576: NARROWER than '..Said'. Prove '..Said' where nothing that the law and all that it calls make is longer than what came in: it says more and counts as full. Else prove '..UptoSaid'. A law counts once. -/
mutual
def uptoBulk {H : Type} : DataW H → Nat
  | .lit (.string bytes) => bytes.length + 1
  | .lit _ => 1
  | .nil => 1
  | .ptr d => uptoBulk d + 1
  | .slice elems spare => uptoBulkAll elems + uptoBulkAll spare + 1
  | .agg parts => uptoBulkAll parts + 1
  | .iface _ d => uptoBulk d + 1
  | .map entries => uptoBulkEntries entries + 1
  | .held _ => 1
def uptoBulkAll {H : Type} : List (DataW H) → Nat
  | [] => 0
  | d :: r => uptoBulk d + uptoBulkAll r
def uptoBulkEntries {H : Type} : List (Lit × DataW H) → Nat
  | [] => 0
  | x :: r => uptoBulkEntry x + uptoBulkEntries r
def uptoBulkEntry {H : Type} : Lit × DataW H → Nat
  | (.string bytes, d) => bytes.length + uptoBulk d + 1
  | (_, d) => uptoBulk d + 1
 end
def uptoSmall : (H : Type) → List (DataW H) → Bool := fun _ ds => decide (uptoBulkAll ds ≤ 1048576)
def OpenSpec.upto (s : _root_.Go.ChangeSpec) : _root_.Go.OpenSpec := { _root_.Go.OpenSpec.ofChange s with cond := some uptoSmall }

/-- 'laws.FnCountName', WHERE WHAT IT READS IS OF BULK AT MOST 1048576: true; the input reads as it did. -/
def fnCountNameUptoRow : OpenClaim := { program := "ytmhcigdcappdgaa", sum := "6d92f2bfd32961dc7a2b9c2d6e3a112f7909b667366db58a7b00dc59e270cd91", func := "loop.example/macroexpander/laws.FnCountName", spec := "fnCountName", unfollowed := true, recurses := true, apart := false, narrowed := true }
def FnCountNameUptoSaid : Prop := fnCountNameUptoRow.holds Try.pinned (OpenSpec.upto fnCountNameSpec)

/-- 'laws.FnRenameTwice', WHERE WHAT IT READS IS OF BULK AT MOST 1048576: true; the input reads as it did. -/
def fnRenameTwiceUptoRow : OpenClaim := { program := "ytmhcigdcappdgaa", sum := "6d92f2bfd32961dc7a2b9c2d6e3a112f7909b667366db58a7b00dc59e270cd91", func := "loop.example/macroexpander/laws.FnRenameTwice", spec := "fnRenameTwice", inPlace := ["internal/bytealg.IndexByteString"], unfollowed := true, recurses := true, apart := false, narrowed := true }
def FnRenameTwiceUptoSaid : Prop := fnRenameTwiceUptoRow.holds Try.pinned (OpenSpec.upto fnRenameTwiceSpec)

/-- 'laws.FnRenameName', WHERE WHAT IT READS IS OF BULK AT MOST 1048576: true; the input reads as it did. -/
def fnRenameNameUptoRow : OpenClaim := { program := "ytmhcigdcappdgaa", sum := "6d92f2bfd32961dc7a2b9c2d6e3a112f7909b667366db58a7b00dc59e270cd91", func := "loop.example/macroexpander/laws.FnRenameName", spec := "fnRenameName", inPlace := ["internal/bytealg.IndexByteString"], unfollowed := true, recurses := true, apart := false, narrowed := true }
def FnRenameNameUptoSaid : Prop := fnRenameNameUptoRow.holds Try.pinned (OpenSpec.upto fnRenameNameSpec)

end Rows
end Go.Proofs.Ytmhcigdcappdgaa
