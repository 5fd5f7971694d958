/-
  NARROWER THAN 'FOR EVERY INPUT', by the rows' own cells (each row's printed sentence says how): LogFull: laid · LogTail: laid · LogTwice: laid · LogNil: laid · LogPruned: laid · LogSafe: laid.
  DERIVED. THE GIVEN ROWS OF THIS SEAT. 6 by the template 'for every input the law returns true; each argument reads behind the call as it read before'; 0 by the template 'total and deterministic' (their statements: YtggnohbfdlebiaaGreatDoorTotals.lean).
  GIVEN WITH THE SEED: the statements are not yours to turn. If you find one false, say at which input.
  Laid BY PROGRAM, IN A SANDBOX (cutbox-rows.mjs): the forced cells as the released guide's own fill.sh prints them over the translation 7736a0d1e879bac7… (all of the seat's roots in one cut). By AI agents, Wed Nov 11 2026. No macro, syntax, notation, axiom, sorry.
-/
import Derived.Test.YtggnohbfdlebiaaGreatDoorChecked
import GoSem.Claim
import GoSem.ClaimJoined
import GoSem.ClaimMapViews
import Derived.JoinedTies
import Derived.KernelRfl
namespace Go.Proofs.YtggnohbfdlebiaaGreatDoor
/- THE CELL 'sum', in the pinned program and in every row, IS THE sha256 OF THE DUMP (.gsa) THAT YtggnohbfdlebiaaGreatDoorProg.lean LOADS. Nothing in Lean hashes anything: it is a label: what it is worth is what the hold of that sum in a sandbox is worth. -/
noncomputable def Tryz.pinned : Pinned := { name := "ytggnohbfdlebiaagreatdoor", sum := "7736a0d1e879bac7ec3f5889967815aef5fff6e2963ff5cea83bb9e0bbfa98bc", checked := Tryz.checked }
namespace Rows
def none {H : Type} : Left H := { results := [], args := [] }

/- WHAT THE LISTED PACKAGE-LEVEL VARIABLES READ AS WHEN THE CALL BEGINS. Each datum BY PROGRAM (the guide's laid-datum.mjs) off the statement by which the dump's own 'gosem.cut.vars' lays the variable. In a bare row this is a premise. The card (YtggnohbfdlebiaaGreatDoorCards.lean) ties it to the program's text. -/
def laid_bytes_ErrTooLarge {H : Type} : DataW H := .iface "*errors.errorString" (.ptr (.agg [.lit (.string [98, 121, 116, 101, 115, 46, 66, 117, 102, 102, 101, 114, 58, 32, 116, 111, 111, 32, 108, 97, 114, 103, 101])]))

/-- 'passbooklaw10.LogFull': WHATEVER THE INPUT: true; the input reads as it did. -/
def logFullSpec : ChangeSpec := { name := "logFull", fn := fun _ => fun
  | [d1, d2] => { results := [.lit (.bool true)], args := [d1, d2] }
  | _ => none }
def logFullRow : OpenClaim := { program := "ytggnohbfdlebiaagreatdoor", sum := "7736a0d1e879bac7ec3f5889967815aef5fff6e2963ff5cea83bb9e0bbfa98bc", func := "passbook/passbooklaw10.LogFull", spec := "logFull", inPlace := ["internal/bytealg.Count", "internal/bytealg.IndexByte", "internal/bytealg.Index"], unfollowed := true, recurses := true, named := ["bytes.ErrTooLarge", "internal/bytealg.MaxLen"], apart := false, laid := [("bytes.ErrTooLarge", laid_bytes_ErrTooLarge)] }
def LogFullSaid : Prop := logFullRow.holds Tryz.pinned (OpenSpec.ofChange logFullSpec)

/-- ITS FALSE NEIGHBOUR: 'it returns false'. Refute it at one input. -/
def logFullWrong : ChangeSpec := { name := "logFull", fn := fun _ => fun
  | [d1, d2] => { results := [.lit (.bool false)], args := [d1, d2] }
  | _ => none }
def LogFullWrongFalsely : Prop := logFullRow.holds Tryz.pinned (OpenSpec.ofChange logFullWrong)

/-- 'passbooklaw10.LogTail': WHATEVER THE INPUT: true; the input reads as it did. -/
def logTailSpec : ChangeSpec := { name := "logTail", fn := fun _ => fun
  | [d1, d2] => { results := [.lit (.bool true)], args := [d1, d2] }
  | _ => none }
def logTailRow : OpenClaim := { program := "ytggnohbfdlebiaagreatdoor", sum := "7736a0d1e879bac7ec3f5889967815aef5fff6e2963ff5cea83bb9e0bbfa98bc", func := "passbook/passbooklaw10.LogTail", spec := "logTail", inPlace := ["internal/bytealg.Count", "internal/bytealg.IndexByte", "internal/bytealg.Index"], unfollowed := true, recurses := true, named := ["bytes.ErrTooLarge", "internal/bytealg.MaxLen"], apart := false, laid := [("bytes.ErrTooLarge", laid_bytes_ErrTooLarge)] }
def LogTailSaid : Prop := logTailRow.holds Tryz.pinned (OpenSpec.ofChange logTailSpec)

/-- ITS FALSE NEIGHBOUR: 'it returns false'. Refute it at one input. -/
def logTailWrong : ChangeSpec := { name := "logTail", fn := fun _ => fun
  | [d1, d2] => { results := [.lit (.bool false)], args := [d1, d2] }
  | _ => none }
def LogTailWrongFalsely : Prop := logTailRow.holds Tryz.pinned (OpenSpec.ofChange logTailWrong)

/-- 'passbooklaw10.LogTwice': WHATEVER THE INPUT: true; the input reads as it did. -/
def logTwiceSpec : ChangeSpec := { name := "logTwice", fn := fun _ => fun
  | [d1, d2, d3] => { results := [.lit (.bool true)], args := [d1, d2, d3] }
  | _ => none }
def logTwiceRow : OpenClaim := { program := "ytggnohbfdlebiaagreatdoor", sum := "7736a0d1e879bac7ec3f5889967815aef5fff6e2963ff5cea83bb9e0bbfa98bc", func := "passbook/passbooklaw10.LogTwice", spec := "logTwice", inPlace := ["internal/bytealg.Count", "internal/bytealg.IndexByte", "internal/bytealg.Index"], unfollowed := true, recurses := true, named := ["bytes.ErrTooLarge", "internal/bytealg.MaxLen"], apart := false, laid := [("bytes.ErrTooLarge", laid_bytes_ErrTooLarge)] }
def LogTwiceSaid : Prop := logTwiceRow.holds Tryz.pinned (OpenSpec.ofChange logTwiceSpec)

/-- ITS FALSE NEIGHBOUR: 'it returns false'. Refute it at one input. -/
def logTwiceWrong : ChangeSpec := { name := "logTwice", fn := fun _ => fun
  | [d1, d2, d3] => { results := [.lit (.bool false)], args := [d1, d2, d3] }
  | _ => none }
def LogTwiceWrongFalsely : Prop := logTwiceRow.holds Tryz.pinned (OpenSpec.ofChange logTwiceWrong)

/-- 'passbooklaw10.LogNil': WHATEVER THE INPUT: true; the input reads as it did. -/
def logNilSpec : ChangeSpec := { name := "logNil", fn := fun _ => fun
  | [d1, d2, d3] => { results := [.lit (.bool true)], args := [d1, d2, d3] }
  | _ => none }
def logNilRow : OpenClaim := { program := "ytggnohbfdlebiaagreatdoor", sum := "7736a0d1e879bac7ec3f5889967815aef5fff6e2963ff5cea83bb9e0bbfa98bc", func := "passbook/passbooklaw10.LogNil", spec := "logNil", inPlace := ["internal/bytealg.Count", "internal/bytealg.IndexByte", "internal/bytealg.Index"], unfollowed := true, recurses := true, named := ["bytes.ErrTooLarge", "internal/bytealg.MaxLen"], apart := false, laid := [("bytes.ErrTooLarge", laid_bytes_ErrTooLarge)] }
def LogNilSaid : Prop := logNilRow.holds Tryz.pinned (OpenSpec.ofChange logNilSpec)

/-- ITS FALSE NEIGHBOUR: 'it returns false'. Refute it at one input. -/
def logNilWrong : ChangeSpec := { name := "logNil", fn := fun _ => fun
  | [d1, d2, d3] => { results := [.lit (.bool false)], args := [d1, d2, d3] }
  | _ => none }
def LogNilWrongFalsely : Prop := logNilRow.holds Tryz.pinned (OpenSpec.ofChange logNilWrong)

/-- 'passbooklaw10.LogPruned': WHATEVER THE INPUT: true; the input reads as it did. -/
def logPrunedSpec : ChangeSpec := { name := "logPruned", fn := fun _ => fun
  | [d1, d2, d3] => { results := [.lit (.bool true)], args := [d1, d2, d3] }
  | _ => none }
def logPrunedRow : OpenClaim := { program := "ytggnohbfdlebiaagreatdoor", sum := "7736a0d1e879bac7ec3f5889967815aef5fff6e2963ff5cea83bb9e0bbfa98bc", func := "passbook/passbooklaw10.LogPruned", spec := "logPruned", inPlace := ["internal/bytealg.Count", "internal/bytealg.IndexByte", "internal/bytealg.Index"], unfollowed := true, recurses := true, named := ["bytes.ErrTooLarge", "internal/bytealg.MaxLen"], apart := false, laid := [("bytes.ErrTooLarge", laid_bytes_ErrTooLarge)] }
def LogPrunedSaid : Prop := logPrunedRow.holds Tryz.pinned (OpenSpec.ofChange logPrunedSpec)

/-- ITS FALSE NEIGHBOUR: 'it returns false'. Refute it at one input. -/
def logPrunedWrong : ChangeSpec := { name := "logPruned", fn := fun _ => fun
  | [d1, d2, d3] => { results := [.lit (.bool false)], args := [d1, d2, d3] }
  | _ => none }
def LogPrunedWrongFalsely : Prop := logPrunedRow.holds Tryz.pinned (OpenSpec.ofChange logPrunedWrong)

/-- 'passbooklaw10.LogSafe': WHATEVER THE INPUT: true; the input reads as it did. -/
def logSafeSpec : ChangeSpec := { name := "logSafe", fn := fun _ => fun
  | [d1, d2] => { results := [.lit (.bool true)], args := [d1, d2] }
  | _ => none }
def logSafeRow : OpenClaim := { program := "ytggnohbfdlebiaagreatdoor", sum := "7736a0d1e879bac7ec3f5889967815aef5fff6e2963ff5cea83bb9e0bbfa98bc", func := "passbook/passbooklaw10.LogSafe", spec := "logSafe", inPlace := ["internal/bytealg.Count", "internal/bytealg.IndexByte", "internal/bytealg.Index"], unfollowed := true, recurses := true, named := ["bytes.ErrTooLarge", "internal/bytealg.MaxLen"], apart := false, laid := [("bytes.ErrTooLarge", laid_bytes_ErrTooLarge)] }
def LogSafeSaid : Prop := logSafeRow.holds Tryz.pinned (OpenSpec.ofChange logSafeSpec)

/-- ITS FALSE NEIGHBOUR: 'it returns false'. Refute it at one input. -/
def logSafeWrong : ChangeSpec := { name := "logSafe", fn := fun _ => fun
  | [d1, d2] => { results := [.lit (.bool false)], args := [d1, d2] }
  | _ => none }
def LogSafeWrongFalsely : Prop := logSafeRow.holds Tryz.pinned (OpenSpec.ofChange logSafeWrong)

/- THE SECOND FORM. 'bulk': how many values and letters a reading holds, each counted each time it is reached (what is shared counts as often as it is met; a slice's spare places count too). A statement '..UptoSaid' is the law's where the arguments, and the package variables that the reading takes, are together of bulk at most 1048576: NARROWER than '..Said'. Prove '..Said' where nothing that the law and all that it calls make is longer than what came in: it says more and counts as full. Else prove '..UptoSaid'. A law counts once. -/
mutual
def uptoBulk {H : Type} : DataW H → Nat
  | .lit (.string bytes) => bytes.length + 1
  | .lit _ => 1
  | .nil => 1
  | .ptr d => uptoBulk d + 1
  | .slice elems spare => uptoBulkAll elems + uptoBulkAll spare + 1
  | .agg parts => uptoBulkAll parts + 1
  | .iface _ d => uptoBulk d + 1
  | .map entries => uptoBulkEntries entries + 1
  | .held _ => 1
def uptoBulkAll {H : Type} : List (DataW H) → Nat
  | [] => 0
  | d :: r => uptoBulk d + uptoBulkAll r
def uptoBulkEntries {H : Type} : List (Lit × DataW H) → Nat
  | [] => 0
  | x :: r => uptoBulkEntry x + uptoBulkEntries r
def uptoBulkEntry {H : Type} : Lit × DataW H → Nat
  | (.string bytes, d) => bytes.length + uptoBulk d + 1
  | (_, d) => uptoBulk d + 1
 end
def uptoSmall : (H : Type) → List (DataW H) → Bool := fun _ ds => decide (uptoBulkAll ds ≤ 1048576)
def OpenSpec.upto (s : _root_.Go.ChangeSpec) : _root_.Go.OpenSpec := { _root_.Go.OpenSpec.ofChange s with cond := some uptoSmall }

/-- 'passbooklaw10.LogFull', WHERE WHAT IT READS IS OF BULK AT MOST 1048576: true; the input reads as it did. -/
def logFullUptoRow : OpenClaim := { program := "ytggnohbfdlebiaagreatdoor", sum := "7736a0d1e879bac7ec3f5889967815aef5fff6e2963ff5cea83bb9e0bbfa98bc", func := "passbook/passbooklaw10.LogFull", spec := "logFull", inPlace := ["internal/bytealg.Count", "internal/bytealg.IndexByte", "internal/bytealg.Index"], unfollowed := true, recurses := true, named := ["bytes.ErrTooLarge", "internal/bytealg.MaxLen"], apart := false, laid := [("bytes.ErrTooLarge", laid_bytes_ErrTooLarge)], narrowed := true }
def LogFullUptoSaid : Prop := logFullUptoRow.holds Tryz.pinned (OpenSpec.upto logFullSpec)

/-- 'passbooklaw10.LogTail', WHERE WHAT IT READS IS OF BULK AT MOST 1048576: true; the input reads as it did. -/
def logTailUptoRow : OpenClaim := { program := "ytggnohbfdlebiaagreatdoor", sum := "7736a0d1e879bac7ec3f5889967815aef5fff6e2963ff5cea83bb9e0bbfa98bc", func := "passbook/passbooklaw10.LogTail", spec := "logTail", inPlace := ["internal/bytealg.Count", "internal/bytealg.IndexByte", "internal/bytealg.Index"], unfollowed := true, recurses := true, named := ["bytes.ErrTooLarge", "internal/bytealg.MaxLen"], apart := false, laid := [("bytes.ErrTooLarge", laid_bytes_ErrTooLarge)], narrowed := true }
def LogTailUptoSaid : Prop := logTailUptoRow.holds Tryz.pinned (OpenSpec.upto logTailSpec)

/-- 'passbooklaw10.LogTwice', WHERE WHAT IT READS IS OF BULK AT MOST 1048576: true; the input reads as it did. -/
def logTwiceUptoRow : OpenClaim := { program := "ytggnohbfdlebiaagreatdoor", sum := "7736a0d1e879bac7ec3f5889967815aef5fff6e2963ff5cea83bb9e0bbfa98bc", func := "passbook/passbooklaw10.LogTwice", spec := "logTwice", inPlace := ["internal/bytealg.Count", "internal/bytealg.IndexByte", "internal/bytealg.Index"], unfollowed := true, recurses := true, named := ["bytes.ErrTooLarge", "internal/bytealg.MaxLen"], apart := false, laid := [("bytes.ErrTooLarge", laid_bytes_ErrTooLarge)], narrowed := true }
def LogTwiceUptoSaid : Prop := logTwiceUptoRow.holds Tryz.pinned (OpenSpec.upto logTwiceSpec)

/-- 'passbooklaw10.LogNil', WHERE WHAT IT READS IS OF BULK AT MOST 1048576: true; the input reads as it did. -/
def logNilUptoRow : OpenClaim := { program := "ytggnohbfdlebiaagreatdoor", sum := "7736a0d1e879bac7ec3f5889967815aef5fff6e2963ff5cea83bb9e0bbfa98bc", func := "passbook/passbooklaw10.LogNil", spec := "logNil", inPlace := ["internal/bytealg.Count", "internal/bytealg.IndexByte", "internal/bytealg.Index"], unfollowed := true, recurses := true, named := ["bytes.ErrTooLarge", "internal/bytealg.MaxLen"], apart := false, laid := [("bytes.ErrTooLarge", laid_bytes_ErrTooLarge)], narrowed := true }
def LogNilUptoSaid : Prop := logNilUptoRow.holds Tryz.pinned (OpenSpec.upto logNilSpec)

/-- 'passbooklaw10.LogPruned', WHERE WHAT IT READS IS OF BULK AT MOST 1048576: true; the input reads as it did. -/
def logPrunedUptoRow : OpenClaim := { program := "ytggnohbfdlebiaagreatdoor", sum := "7736a0d1e879bac7ec3f5889967815aef5fff6e2963ff5cea83bb9e0bbfa98bc", func := "passbook/passbooklaw10.LogPruned", spec := "logPruned", inPlace := ["internal/bytealg.Count", "internal/bytealg.IndexByte", "internal/bytealg.Index"], unfollowed := true, recurses := true, named := ["bytes.ErrTooLarge", "internal/bytealg.MaxLen"], apart := false, laid := [("bytes.ErrTooLarge", laid_bytes_ErrTooLarge)], narrowed := true }
def LogPrunedUptoSaid : Prop := logPrunedUptoRow.holds Tryz.pinned (OpenSpec.upto logPrunedSpec)

/-- 'passbooklaw10.LogSafe', WHERE WHAT IT READS IS OF BULK AT MOST 1048576: true; the input reads as it did. -/
def logSafeUptoRow : OpenClaim := { program := "ytggnohbfdlebiaagreatdoor", sum := "7736a0d1e879bac7ec3f5889967815aef5fff6e2963ff5cea83bb9e0bbfa98bc", func := "passbook/passbooklaw10.LogSafe", spec := "logSafe", inPlace := ["internal/bytealg.Count", "internal/bytealg.IndexByte", "internal/bytealg.Index"], unfollowed := true, recurses := true, named := ["bytes.ErrTooLarge", "internal/bytealg.MaxLen"], apart := false, laid := [("bytes.ErrTooLarge", laid_bytes_ErrTooLarge)], narrowed := true }
def LogSafeUptoSaid : Prop := logSafeUptoRow.holds Tryz.pinned (OpenSpec.upto logSafeSpec)

end Rows
end Go.Proofs.YtggnohbfdlebiaaGreatDoor
