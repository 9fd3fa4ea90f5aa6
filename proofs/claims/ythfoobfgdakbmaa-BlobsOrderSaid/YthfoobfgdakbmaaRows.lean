/-
  No cell of these rows narrows 'for every input' (looked for: loops, veiled, ifaces, maps, wideKeys, modest, calm, conditions, laid).
  DERIVED. THE GIVEN ROWS OF THIS SEAT. 4 by the template 'for every input the law returns true; each argument reads behind the call as it read before'; 0 by the template 'total and deterministic' (their statements: YthfoobfgdakbmaaTotals.lean).
  GIVEN WITH THE SEED: the statements are not yours to turn. If you find one false, say at which input.
  Laid BY PROGRAM, IN A SANDBOX (cutbox-rows.mjs): the forced cells as the released guide's own fill.sh prints them over the translation 99f3b0e593e6b1e9… (all of the seat's roots in one cut). By AI agents, Wed Nov 11 2026. No macro, syntax, notation, axiom, sorry.
-/
import Derived.Test.YthfoobfgdakbmaaChecked
import GoSem.Claim
import GoSem.ClaimJoined
import GoSem.ClaimMapViews
import Derived.JoinedTies
import Derived.KernelRfl
namespace Go.Proofs.Ythfoobfgdakbmaa
/- THE CELL 'sum', in the pinned program and in every row, IS THE sha256 OF THE DUMP (.gsa) THAT YthfoobfgdakbmaaProg.lean LOADS. Nothing in Lean hashes anything: it is a label: what it is worth is what the hold of that sum in a sandbox is worth. -/
noncomputable def Try.pinned : Pinned := { name := "ythfoobfgdakbmaa", sum := "99f3b0e593e6b1e9ba21a377dfaf05626f225c8f46b5759a27b4b9754e95bd8e", checked := Try.checked }
namespace Rows
def none {H : Type} : Left H := { results := [], args := [] }

/-- 'bloomerylaw06.BlobsPlays': WHATEVER THE INPUT: true; the input reads as it did. -/
def blobsPlaysSpec : ChangeSpec := { name := "blobsPlays", fn := fun _ => fun
  | [d] => { results := [.lit (.bool true)], args := [d] }
  | _ => none }
def blobsPlaysRow : OpenClaim := { program := "ythfoobfgdakbmaa", sum := "99f3b0e593e6b1e9ba21a377dfaf05626f225c8f46b5759a27b4b9754e95bd8e", func := "bloomery/bloomerylaw06.BlobsPlays", spec := "blobsPlays", inPlace := ["internal/bytealg.Compare"], unfollowed := true, recurses := true, plainKeys := false, apart := false }
def BlobsPlaysSaid : Prop := blobsPlaysRow.holds Try.pinned (OpenSpec.ofChange blobsPlaysSpec)

/-- ITS FALSE NEIGHBOUR: 'it returns false'. Refute it at one input. -/
def blobsPlaysWrong : ChangeSpec := { name := "blobsPlays", fn := fun _ => fun
  | [d] => { results := [.lit (.bool false)], args := [d] }
  | _ => none }
def BlobsPlaysWrongFalsely : Prop := blobsPlaysRow.holds Try.pinned (OpenSpec.ofChange blobsPlaysWrong)

/-- 'bloomerylaw06.BlobsOrder': WHATEVER THE INPUT: true; the input reads as it did. -/
def blobsOrderSpec : ChangeSpec := { name := "blobsOrder", fn := fun _ => fun
  | [d1, d2] => { results := [.lit (.bool true)], args := [d1, d2] }
  | _ => none }
def blobsOrderRow : OpenClaim := { program := "ythfoobfgdakbmaa", sum := "99f3b0e593e6b1e9ba21a377dfaf05626f225c8f46b5759a27b4b9754e95bd8e", func := "bloomery/bloomerylaw06.BlobsOrder", spec := "blobsOrder", inPlace := ["internal/bytealg.Compare"], unfollowed := true, recurses := true, plainKeys := false, apart := false }
def BlobsOrderSaid : Prop := blobsOrderRow.holds Try.pinned (OpenSpec.ofChange blobsOrderSpec)

/-- ITS FALSE NEIGHBOUR: 'it returns false'. Refute it at one input. -/
def blobsOrderWrong : ChangeSpec := { name := "blobsOrder", fn := fun _ => fun
  | [d1, d2] => { results := [.lit (.bool false)], args := [d1, d2] }
  | _ => none }
def BlobsOrderWrongFalsely : Prop := blobsOrderRow.holds Try.pinned (OpenSpec.ofChange blobsOrderWrong)

/-- 'bloomerylaw06.BlobsNone': WHATEVER THE INPUT: true; the input reads as it did. -/
def blobsNoneSpec : ChangeSpec := { name := "blobsNone", fn := fun _ => fun
  | [d1, d2] => { results := [.lit (.bool true)], args := [d1, d2] }
  | _ => none }
def blobsNoneRow : OpenClaim := { program := "ythfoobfgdakbmaa", sum := "99f3b0e593e6b1e9ba21a377dfaf05626f225c8f46b5759a27b4b9754e95bd8e", func := "bloomery/bloomerylaw06.BlobsNone", spec := "blobsNone", inPlace := ["internal/bytealg.Compare"], unfollowed := true, recurses := true, plainKeys := false, apart := false }
def BlobsNoneSaid : Prop := blobsNoneRow.holds Try.pinned (OpenSpec.ofChange blobsNoneSpec)

/-- ITS FALSE NEIGHBOUR: 'it returns false'. Refute it at one input. -/
def blobsNoneWrong : ChangeSpec := { name := "blobsNone", fn := fun _ => fun
  | [d1, d2] => { results := [.lit (.bool false)], args := [d1, d2] }
  | _ => none }
def BlobsNoneWrongFalsely : Prop := blobsNoneRow.holds Try.pinned (OpenSpec.ofChange blobsNoneWrong)

/-- 'bloomerylaw06.BlobsChecks': WHATEVER THE INPUT: true; the input reads as it did. -/
def blobsChecksSpec : ChangeSpec := { name := "blobsChecks", fn := fun _ => fun
  | [d1, d2] => { results := [.lit (.bool true)], args := [d1, d2] }
  | _ => none }
def blobsChecksRow : OpenClaim := { program := "ythfoobfgdakbmaa", sum := "99f3b0e593e6b1e9ba21a377dfaf05626f225c8f46b5759a27b4b9754e95bd8e", func := "bloomery/bloomerylaw06.BlobsChecks", spec := "blobsChecks", inPlace := ["internal/bytealg.Compare"], unfollowed := true, recurses := true, plainKeys := false, apart := false }
def BlobsChecksSaid : Prop := blobsChecksRow.holds Try.pinned (OpenSpec.ofChange blobsChecksSpec)

/-- ITS FALSE NEIGHBOUR: 'it returns false'. Refute it at one input. -/
def blobsChecksWrong : ChangeSpec := { name := "blobsChecks", fn := fun _ => fun
  | [d1, d2] => { results := [.lit (.bool false)], args := [d1, d2] }
  | _ => none }
def BlobsChecksWrongFalsely : Prop := blobsChecksRow.holds Try.pinned (OpenSpec.ofChange blobsChecksWrong)

/- THE SECOND FORM. 'bulk': how many values and letters a reading holds, each counted each time it is reached (what is shared counts as often as it is met; a slice's spare places count too). A statement '..UptoSaid' is the law's where the arguments, and the package variables that the reading takes, are together of bulk at most 1048576: NARROWER than '..Said'. Prove '..Said' where nothing that the law and all that it calls make is longer than what came in: it says more and counts as full. Else prove '..UptoSaid'. A law counts once. -/
mutual
def uptoBulk {H : Type} : DataW H → Nat
  | .lit (.string bytes) => bytes.length + 1
  | .lit _ => 1
  | .nil => 1
  | .ptr d => uptoBulk d + 1
  | .slice elems spare => uptoBulkAll elems + uptoBulkAll spare + 1
  | .agg parts => uptoBulkAll parts + 1
  | .iface _ d => uptoBulk d + 1
  | .map entries => uptoBulkEntries entries + 1
  | .held _ => 1
def uptoBulkAll {H : Type} : List (DataW H) → Nat
  | [] => 0
  | d :: r => uptoBulk d + uptoBulkAll r
def uptoBulkEntries {H : Type} : List (Lit × DataW H) → Nat
  | [] => 0
  | x :: r => uptoBulkEntry x + uptoBulkEntries r
def uptoBulkEntry {H : Type} : Lit × DataW H → Nat
  | (.string bytes, d) => bytes.length + uptoBulk d + 1
  | (_, d) => uptoBulk d + 1
 end
def uptoSmall : (H : Type) → List (DataW H) → Bool := fun _ ds => decide (uptoBulkAll ds ≤ 1048576)
def OpenSpec.upto (s : _root_.Go.ChangeSpec) : _root_.Go.OpenSpec := { _root_.Go.OpenSpec.ofChange s with cond := some uptoSmall }

/-- 'bloomerylaw06.BlobsPlays', WHERE WHAT IT READS IS OF BULK AT MOST 1048576: true; the input reads as it did. -/
def blobsPlaysUptoRow : OpenClaim := { program := "ythfoobfgdakbmaa", sum := "99f3b0e593e6b1e9ba21a377dfaf05626f225c8f46b5759a27b4b9754e95bd8e", func := "bloomery/bloomerylaw06.BlobsPlays", spec := "blobsPlays", inPlace := ["internal/bytealg.Compare"], unfollowed := true, recurses := true, plainKeys := false, apart := false, narrowed := true }
def BlobsPlaysUptoSaid : Prop := blobsPlaysUptoRow.holds Try.pinned (OpenSpec.upto blobsPlaysSpec)

/-- 'bloomerylaw06.BlobsOrder', WHERE WHAT IT READS IS OF BULK AT MOST 1048576: true; the input reads as it did. -/
def blobsOrderUptoRow : OpenClaim := { program := "ythfoobfgdakbmaa", sum := "99f3b0e593e6b1e9ba21a377dfaf05626f225c8f46b5759a27b4b9754e95bd8e", func := "bloomery/bloomerylaw06.BlobsOrder", spec := "blobsOrder", inPlace := ["internal/bytealg.Compare"], unfollowed := true, recurses := true, plainKeys := false, apart := false, narrowed := true }
def BlobsOrderUptoSaid : Prop := blobsOrderUptoRow.holds Try.pinned (OpenSpec.upto blobsOrderSpec)

/-- 'bloomerylaw06.BlobsNone', WHERE WHAT IT READS IS OF BULK AT MOST 1048576: true; the input reads as it did. -/
def blobsNoneUptoRow : OpenClaim := { program := "ythfoobfgdakbmaa", sum := "99f3b0e593e6b1e9ba21a377dfaf05626f225c8f46b5759a27b4b9754e95bd8e", func := "bloomery/bloomerylaw06.BlobsNone", spec := "blobsNone", inPlace := ["internal/bytealg.Compare"], unfollowed := true, recurses := true, plainKeys := false, apart := false, narrowed := true }
def BlobsNoneUptoSaid : Prop := blobsNoneUptoRow.holds Try.pinned (OpenSpec.upto blobsNoneSpec)

/-- 'bloomerylaw06.BlobsChecks', WHERE WHAT IT READS IS OF BULK AT MOST 1048576: true; the input reads as it did. -/
def blobsChecksUptoRow : OpenClaim := { program := "ythfoobfgdakbmaa", sum := "99f3b0e593e6b1e9ba21a377dfaf05626f225c8f46b5759a27b4b9754e95bd8e", func := "bloomery/bloomerylaw06.BlobsChecks", spec := "blobsChecks", inPlace := ["internal/bytealg.Compare"], unfollowed := true, recurses := true, plainKeys := false, apart := false, narrowed := true }
def BlobsChecksUptoSaid : Prop := blobsChecksUptoRow.holds Try.pinned (OpenSpec.upto blobsChecksSpec)

end Rows
end Go.Proofs.Ythfoobfgdakbmaa
