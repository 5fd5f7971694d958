/-
  NARROWER THAN 'FOR EVERY INPUT', by the rows' own cells (each row's printed sentence says how): DiskFull: laid · DiskSynced: laid · DiskArmed: laid · DiskTruncated: laid · DiskRenames: laid · DiskApart: laid.
  DERIVED. THE GIVEN ROWS OF THIS SEAT. 6 by the template 'for every input the law returns true; each argument reads behind the call as it read before'; 0 by the template 'total and deterministic' (their statements: YtdncdnnlmddjhaaDoorTotals.lean).
  GIVEN WITH THE SEED: the statements are not yours to turn. If you find one false, say at which input.
  Laid BY PROGRAM, IN A SANDBOX (cutbox-rows.mjs): the forced cells as the released guide's own fill.sh prints them over the translation 180be7a8a258af00… (all of the seat's roots in one cut). By AI agents, Wed Nov 11 2026. No macro, syntax, notation, axiom, sorry.
-/
import Derived.Test.YtdncdnnlmddjhaaDoorChecked
import GoSem.Claim
import GoSem.ClaimJoined
import GoSem.ClaimMapViews
import Derived.JoinedTies
import Derived.KernelRfl
namespace Go.Proofs.YtdncdnnlmddjhaaDoor
/- THE CELL 'sum', in the pinned program and in every row, IS THE sha256 OF THE DUMP (.gsa) THAT YtdncdnnlmddjhaaDoorProg.lean LOADS. Nothing in Lean hashes anything: it is a label: what it is worth is what the hold of that sum in a sandbox is worth. -/
noncomputable def Tryd.pinned : Pinned := { name := "ytdncdnnlmddjhaadoor", sum := "180be7a8a258af0082530d2fd6ec5305ce396b75469173143f5817fec94fe111", checked := Tryd.checked }
namespace Rows
def none {H : Type} : Left H := { results := [], args := [] }

/- WHAT THE LISTED PACKAGE-LEVEL VARIABLES READ AS WHEN THE CALL BEGINS. Each datum BY PROGRAM (the guide's laid-datum.mjs) off the statement by which the dump's own 'gosem.cut.vars' lays the variable. In a bare row this is a premise. The card (YtdncdnnlmddjhaaDoorCards.lean) ties it to the program's text. -/
def laid_bytes_ErrTooLarge {H : Type} : DataW H := .iface "*errors.errorString" (.ptr (.agg [.lit (.string [98, 121, 116, 101, 115, 46, 66, 117, 102, 102, 101, 114, 58, 32, 116, 111, 111, 32, 108, 97, 114, 103, 101])]))

/-- 'passbooklaw09.DiskFull': WHATEVER THE INPUT: true; the input reads as it did. -/
def diskFullSpec : ChangeSpec := { name := "diskFull", fn := fun _ => fun
  | [d1, d2] => { results := [.lit (.bool true)], args := [d1, d2] }
  | _ => none }
def diskFullRow : OpenClaim := { program := "ytdncdnnlmddjhaadoor", sum := "180be7a8a258af0082530d2fd6ec5305ce396b75469173143f5817fec94fe111", func := "passbook/passbooklaw09.DiskFull", spec := "diskFull", unfollowed := true, recurses := true, named := ["bytes.ErrTooLarge"], apart := false, laid := [("bytes.ErrTooLarge", laid_bytes_ErrTooLarge)] }
def DiskFullSaid : Prop := diskFullRow.holds Tryd.pinned (OpenSpec.ofChange diskFullSpec)

/-- ITS FALSE NEIGHBOUR: 'it returns false'. Refute it at one input. -/
def diskFullWrong : ChangeSpec := { name := "diskFull", fn := fun _ => fun
  | [d1, d2] => { results := [.lit (.bool false)], args := [d1, d2] }
  | _ => none }
def DiskFullWrongFalsely : Prop := diskFullRow.holds Tryd.pinned (OpenSpec.ofChange diskFullWrong)

/-- 'passbooklaw09.DiskSynced': WHATEVER THE INPUT: true; the input reads as it did. -/
def diskSyncedSpec : ChangeSpec := { name := "diskSynced", fn := fun _ => fun
  | [d1, d2, d3] => { results := [.lit (.bool true)], args := [d1, d2, d3] }
  | _ => none }
def diskSyncedRow : OpenClaim := { program := "ytdncdnnlmddjhaadoor", sum := "180be7a8a258af0082530d2fd6ec5305ce396b75469173143f5817fec94fe111", func := "passbook/passbooklaw09.DiskSynced", spec := "diskSynced", unfollowed := true, recurses := true, named := ["bytes.ErrTooLarge"], apart := false, laid := [("bytes.ErrTooLarge", laid_bytes_ErrTooLarge)] }
def DiskSyncedSaid : Prop := diskSyncedRow.holds Tryd.pinned (OpenSpec.ofChange diskSyncedSpec)

/-- ITS FALSE NEIGHBOUR: 'it returns false'. Refute it at one input. -/
def diskSyncedWrong : ChangeSpec := { name := "diskSynced", fn := fun _ => fun
  | [d1, d2, d3] => { results := [.lit (.bool false)], args := [d1, d2, d3] }
  | _ => none }
def DiskSyncedWrongFalsely : Prop := diskSyncedRow.holds Tryd.pinned (OpenSpec.ofChange diskSyncedWrong)

/-- 'passbooklaw09.DiskArmed': WHATEVER THE INPUT: true; the input reads as it did. -/
def diskArmedSpec : ChangeSpec := { name := "diskArmed", fn := fun _ => fun
  | [d1, d2] => { results := [.lit (.bool true)], args := [d1, d2] }
  | _ => none }
def diskArmedRow : OpenClaim := { program := "ytdncdnnlmddjhaadoor", sum := "180be7a8a258af0082530d2fd6ec5305ce396b75469173143f5817fec94fe111", func := "passbook/passbooklaw09.DiskArmed", spec := "diskArmed", unfollowed := true, recurses := true, named := ["bytes.ErrTooLarge"], apart := false, laid := [("bytes.ErrTooLarge", laid_bytes_ErrTooLarge)] }
def DiskArmedSaid : Prop := diskArmedRow.holds Tryd.pinned (OpenSpec.ofChange diskArmedSpec)

/-- ITS FALSE NEIGHBOUR: 'it returns false'. Refute it at one input. -/
def diskArmedWrong : ChangeSpec := { name := "diskArmed", fn := fun _ => fun
  | [d1, d2] => { results := [.lit (.bool false)], args := [d1, d2] }
  | _ => none }
def DiskArmedWrongFalsely : Prop := diskArmedRow.holds Tryd.pinned (OpenSpec.ofChange diskArmedWrong)

/-- 'passbooklaw09.DiskTruncated': WHATEVER THE INPUT: true; the input reads as it did. -/
def diskTruncatedSpec : ChangeSpec := { name := "diskTruncated", fn := fun _ => fun
  | [d1, d2] => { results := [.lit (.bool true)], args := [d1, d2] }
  | _ => none }
def diskTruncatedRow : OpenClaim := { program := "ytdncdnnlmddjhaadoor", sum := "180be7a8a258af0082530d2fd6ec5305ce396b75469173143f5817fec94fe111", func := "passbook/passbooklaw09.DiskTruncated", spec := "diskTruncated", unfollowed := true, recurses := true, named := ["bytes.ErrTooLarge"], apart := false, laid := [("bytes.ErrTooLarge", laid_bytes_ErrTooLarge)] }
def DiskTruncatedSaid : Prop := diskTruncatedRow.holds Tryd.pinned (OpenSpec.ofChange diskTruncatedSpec)

/-- ITS FALSE NEIGHBOUR: 'it returns false'. Refute it at one input. -/
def diskTruncatedWrong : ChangeSpec := { name := "diskTruncated", fn := fun _ => fun
  | [d1, d2] => { results := [.lit (.bool false)], args := [d1, d2] }
  | _ => none }
def DiskTruncatedWrongFalsely : Prop := diskTruncatedRow.holds Tryd.pinned (OpenSpec.ofChange diskTruncatedWrong)

/-- 'passbooklaw09.DiskRenames': WHATEVER THE INPUT: true; the input reads as it did. -/
def diskRenamesSpec : ChangeSpec := { name := "diskRenames", fn := fun _ => fun
  | [d1, d2, d3] => { results := [.lit (.bool true)], args := [d1, d2, d3] }
  | _ => none }
def diskRenamesRow : OpenClaim := { program := "ytdncdnnlmddjhaadoor", sum := "180be7a8a258af0082530d2fd6ec5305ce396b75469173143f5817fec94fe111", func := "passbook/passbooklaw09.DiskRenames", spec := "diskRenames", unfollowed := true, recurses := true, named := ["bytes.ErrTooLarge"], apart := false, laid := [("bytes.ErrTooLarge", laid_bytes_ErrTooLarge)] }
def DiskRenamesSaid : Prop := diskRenamesRow.holds Tryd.pinned (OpenSpec.ofChange diskRenamesSpec)

/-- ITS FALSE NEIGHBOUR: 'it returns false'. Refute it at one input. -/
def diskRenamesWrong : ChangeSpec := { name := "diskRenames", fn := fun _ => fun
  | [d1, d2, d3] => { results := [.lit (.bool false)], args := [d1, d2, d3] }
  | _ => none }
def DiskRenamesWrongFalsely : Prop := diskRenamesRow.holds Tryd.pinned (OpenSpec.ofChange diskRenamesWrong)

/-- 'passbooklaw09.DiskApart': WHATEVER THE INPUT: true; the input reads as it did. -/
def diskApartSpec : ChangeSpec := { name := "diskApart", fn := fun _ => fun
  | [d1, d2] => { results := [.lit (.bool true)], args := [d1, d2] }
  | _ => none }
def diskApartRow : OpenClaim := { program := "ytdncdnnlmddjhaadoor", sum := "180be7a8a258af0082530d2fd6ec5305ce396b75469173143f5817fec94fe111", func := "passbook/passbooklaw09.DiskApart", spec := "diskApart", unfollowed := true, recurses := true, named := ["bytes.ErrTooLarge"], apart := false, laid := [("bytes.ErrTooLarge", laid_bytes_ErrTooLarge)] }
def DiskApartSaid : Prop := diskApartRow.holds Tryd.pinned (OpenSpec.ofChange diskApartSpec)

/-- ITS FALSE NEIGHBOUR: 'it returns false'. Refute it at one input. -/
def diskApartWrong : ChangeSpec := { name := "diskApart", fn := fun _ => fun
  | [d1, d2] => { results := [.lit (.bool false)], args := [d1, d2] }
  | _ => none }
def DiskApartWrongFalsely : Prop := diskApartRow.holds Tryd.pinned (OpenSpec.ofChange diskApartWrong)

/- THE SECOND FORM. 'bulk': how many values and letters a reading holds, each counted each time it is reached (what is shared counts as often as it is met; a slice's spare places count too). A statement '..UptoSaid' is the law's where the arguments, and the package variables that the reading takes, are together of bulk at most 1048576: NARROWER than '..Said'. Prove '..Said' where nothing that the law and all that it calls make is longer than what came in: it says more and counts as full. Else prove '..UptoSaid'. A law counts once. -/
mutual
def uptoBulk {H : Type} : DataW H → Nat
  | .lit (.string bytes) => bytes.length + 1
  | .lit _ => 1
  | .nil => 1
  | .ptr d => uptoBulk d + 1
  | .slice elems spare => uptoBulkAll elems + uptoBulkAll spare + 1
  | .agg parts => uptoBulkAll parts + 1
  | .iface _ d => uptoBulk d + 1
  | .map entries => uptoBulkEntries entries + 1
  | .held _ => 1
def uptoBulkAll {H : Type} : List (DataW H) → Nat
  | [] => 0
  | d :: r => uptoBulk d + uptoBulkAll r
def uptoBulkEntries {H : Type} : List (Lit × DataW H) → Nat
  | [] => 0
  | x :: r => uptoBulkEntry x + uptoBulkEntries r
def uptoBulkEntry {H : Type} : Lit × DataW H → Nat
  | (.string bytes, d) => bytes.length + uptoBulk d + 1
  | (_, d) => uptoBulk d + 1
 end
def uptoSmall : (H : Type) → List (DataW H) → Bool := fun _ ds => decide (uptoBulkAll ds ≤ 1048576)
def OpenSpec.upto (s : _root_.Go.ChangeSpec) : _root_.Go.OpenSpec := { _root_.Go.OpenSpec.ofChange s with cond := some uptoSmall }

/-- 'passbooklaw09.DiskFull', WHERE WHAT IT READS IS OF BULK AT MOST 1048576: true; the input reads as it did. -/
def diskFullUptoRow : OpenClaim := { program := "ytdncdnnlmddjhaadoor", sum := "180be7a8a258af0082530d2fd6ec5305ce396b75469173143f5817fec94fe111", func := "passbook/passbooklaw09.DiskFull", spec := "diskFull", unfollowed := true, recurses := true, named := ["bytes.ErrTooLarge"], apart := false, laid := [("bytes.ErrTooLarge", laid_bytes_ErrTooLarge)], narrowed := true }
def DiskFullUptoSaid : Prop := diskFullUptoRow.holds Tryd.pinned (OpenSpec.upto diskFullSpec)

/-- 'passbooklaw09.DiskSynced', WHERE WHAT IT READS IS OF BULK AT MOST 1048576: true; the input reads as it did. -/
def diskSyncedUptoRow : OpenClaim := { program := "ytdncdnnlmddjhaadoor", sum := "180be7a8a258af0082530d2fd6ec5305ce396b75469173143f5817fec94fe111", func := "passbook/passbooklaw09.DiskSynced", spec := "diskSynced", unfollowed := true, recurses := true, named := ["bytes.ErrTooLarge"], apart := false, laid := [("bytes.ErrTooLarge", laid_bytes_ErrTooLarge)], narrowed := true }
def DiskSyncedUptoSaid : Prop := diskSyncedUptoRow.holds Tryd.pinned (OpenSpec.upto diskSyncedSpec)

/-- 'passbooklaw09.DiskArmed', WHERE WHAT IT READS IS OF BULK AT MOST 1048576: true; the input reads as it did. -/
def diskArmedUptoRow : OpenClaim := { program := "ytdncdnnlmddjhaadoor", sum := "180be7a8a258af0082530d2fd6ec5305ce396b75469173143f5817fec94fe111", func := "passbook/passbooklaw09.DiskArmed", spec := "diskArmed", unfollowed := true, recurses := true, named := ["bytes.ErrTooLarge"], apart := false, laid := [("bytes.ErrTooLarge", laid_bytes_ErrTooLarge)], narrowed := true }
def DiskArmedUptoSaid : Prop := diskArmedUptoRow.holds Tryd.pinned (OpenSpec.upto diskArmedSpec)

/-- 'passbooklaw09.DiskTruncated', WHERE WHAT IT READS IS OF BULK AT MOST 1048576: true; the input reads as it did. -/
def diskTruncatedUptoRow : OpenClaim := { program := "ytdncdnnlmddjhaadoor", sum := "180be7a8a258af0082530d2fd6ec5305ce396b75469173143f5817fec94fe111", func := "passbook/passbooklaw09.DiskTruncated", spec := "diskTruncated", unfollowed := true, recurses := true, named := ["bytes.ErrTooLarge"], apart := false, laid := [("bytes.ErrTooLarge", laid_bytes_ErrTooLarge)], narrowed := true }
def DiskTruncatedUptoSaid : Prop := diskTruncatedUptoRow.holds Tryd.pinned (OpenSpec.upto diskTruncatedSpec)

/-- 'passbooklaw09.DiskRenames', WHERE WHAT IT READS IS OF BULK AT MOST 1048576: true; the input reads as it did. -/
def diskRenamesUptoRow : OpenClaim := { program := "ytdncdnnlmddjhaadoor", sum := "180be7a8a258af0082530d2fd6ec5305ce396b75469173143f5817fec94fe111", func := "passbook/passbooklaw09.DiskRenames", spec := "diskRenames", unfollowed := true, recurses := true, named := ["bytes.ErrTooLarge"], apart := false, laid := [("bytes.ErrTooLarge", laid_bytes_ErrTooLarge)], narrowed := true }
def DiskRenamesUptoSaid : Prop := diskRenamesUptoRow.holds Tryd.pinned (OpenSpec.upto diskRenamesSpec)

/-- 'passbooklaw09.DiskApart', WHERE WHAT IT READS IS OF BULK AT MOST 1048576: true; the input reads as it did. -/
def diskApartUptoRow : OpenClaim := { program := "ytdncdnnlmddjhaadoor", sum := "180be7a8a258af0082530d2fd6ec5305ce396b75469173143f5817fec94fe111", func := "passbook/passbooklaw09.DiskApart", spec := "diskApart", unfollowed := true, recurses := true, named := ["bytes.ErrTooLarge"], apart := false, laid := [("bytes.ErrTooLarge", laid_bytes_ErrTooLarge)], narrowed := true }
def DiskApartUptoSaid : Prop := diskApartUptoRow.holds Tryd.pinned (OpenSpec.upto diskApartSpec)

end Rows
end Go.Proofs.YtdncdnnlmddjhaaDoor
