/-
  No cell of these rows narrows 'for every input' (looked for: loops, veiled, ifaces, maps, wideKeys, modest, calm, conditions, laid).
  DERIVED. THE GIVEN ROWS OF THIS SEAT. 5 by the template 'for every input the law returns true; each argument reads behind the call as it read before'; 0 by the template 'total and deterministic' (their statements: YtpfdfilkhaoibaaTotals.lean).
  GIVEN WITH THE SEED: the statements are not yours to turn. If you find one false, say at which input.
  Laid BY PROGRAM, IN A SANDBOX (cutbox-rows.mjs): the forced cells as the released guide's own fill.sh prints them over the translation a812567a1c72ef0a… (all of the seat's roots in one cut). By AI agents, Wed Nov 11 2026. No macro, syntax, notation, axiom, sorry.
-/
import Derived.Test.YtpfdfilkhaoibaaChecked
import GoSem.Claim
import GoSem.ClaimJoined
import GoSem.ClaimMapViews
import Derived.JoinedTies
import Derived.KernelRfl
namespace Go.Proofs.Ytpfdfilkhaoibaa
/- THE CELL 'sum', in the pinned program and in every row, IS THE sha256 OF THE DUMP (.gsa) THAT YtpfdfilkhaoibaaProg.lean LOADS. Nothing in Lean hashes anything: it is a label: what it is worth is what the hold of that sum in a sandbox is worth. -/
noncomputable def Try.pinned : Pinned := { name := "ytpfdfilkhaoibaa", sum := "a812567a1c72ef0adfa1a7b30270e5d1edd3100f803df7bee0fa22fdc9dfc95b", checked := Try.checked }
namespace Rows
def none {H : Type} : Left H := { results := [], args := [] }

/-- 'pentimentolaw20.ViewWhole': WHATEVER THE INPUT: true; the input reads as it did. -/
def viewWholeSpec : ChangeSpec := { name := "viewWhole", fn := fun _ => fun
  | [d1, d2] => { results := [.lit (.bool true)], args := [d1, d2] }
  | _ => none }
def viewWholeRow : OpenClaim := { program := "ytpfdfilkhaoibaa", sum := "a812567a1c72ef0adfa1a7b30270e5d1edd3100f803df7bee0fa22fdc9dfc95b", func := "pentimento/pentimentolaw20.ViewWhole", spec := "viewWhole", inPlace := ["slices.overlaps[pentimento/api.Write]"], unfollowed := true, recurses := true, apart := false }
def ViewWholeSaid : Prop := viewWholeRow.holds Try.pinned (OpenSpec.ofChange viewWholeSpec)

/-- ITS FALSE NEIGHBOUR: 'it returns false'. Refute it at one input. -/
def viewWholeWrong : ChangeSpec := { name := "viewWhole", fn := fun _ => fun
  | [d1, d2] => { results := [.lit (.bool false)], args := [d1, d2] }
  | _ => none }
def ViewWholeWrongFalsely : Prop := viewWholeRow.holds Try.pinned (OpenSpec.ofChange viewWholeWrong)

/-- 'pentimentolaw30.AuditReads': WHATEVER THE INPUT: true; the input reads as it did. -/
def auditReadsSpec : ChangeSpec := { name := "auditReads", fn := fun _ => fun
  | [d] => { results := [.lit (.bool true)], args := [d] }
  | _ => none }
def auditReadsRow : OpenClaim := { program := "ytpfdfilkhaoibaa", sum := "a812567a1c72ef0adfa1a7b30270e5d1edd3100f803df7bee0fa22fdc9dfc95b", func := "pentimento/pentimentolaw30.AuditReads", spec := "auditReads", inPlace := ["internal/bytealg.IndexByteString", "internal/bytealg.IndexString"], unfollowed := true, recurses := true, named := ["internal/bytealg.MaxLen"], apart := false }
def AuditReadsSaid : Prop := auditReadsRow.holds Try.pinned (OpenSpec.ofChange auditReadsSpec)

/-- ITS FALSE NEIGHBOUR: 'it returns false'. Refute it at one input. -/
def auditReadsWrong : ChangeSpec := { name := "auditReads", fn := fun _ => fun
  | [d] => { results := [.lit (.bool false)], args := [d] }
  | _ => none }
def AuditReadsWrongFalsely : Prop := auditReadsRow.holds Try.pinned (OpenSpec.ofChange auditReadsWrong)

/-- 'pentimentolaw20.ViewPages': WHATEVER THE INPUT: true; the input reads as it did. -/
def viewPagesSpec : ChangeSpec := { name := "viewPages", fn := fun _ => fun
  | [d1, d2, d3] => { results := [.lit (.bool true)], args := [d1, d2, d3] }
  | _ => none }
def viewPagesRow : OpenClaim := { program := "ytpfdfilkhaoibaa", sum := "a812567a1c72ef0adfa1a7b30270e5d1edd3100f803df7bee0fa22fdc9dfc95b", func := "pentimento/pentimentolaw20.ViewPages", spec := "viewPages", inPlace := ["slices.overlaps[pentimento/api.Write]"], unfollowed := true, recurses := true, apart := false }
def ViewPagesSaid : Prop := viewPagesRow.holds Try.pinned (OpenSpec.ofChange viewPagesSpec)

/-- ITS FALSE NEIGHBOUR: 'it returns false'. Refute it at one input. -/
def viewPagesWrong : ChangeSpec := { name := "viewPages", fn := fun _ => fun
  | [d1, d2, d3] => { results := [.lit (.bool false)], args := [d1, d2, d3] }
  | _ => none }
def ViewPagesWrongFalsely : Prop := viewPagesRow.holds Try.pinned (OpenSpec.ofChange viewPagesWrong)

/-- 'pentimentolaw18.TxnFirst': WHATEVER THE INPUT: true; the input reads as it did. -/
def txnFirstSpec : ChangeSpec := { name := "txnFirst", fn := fun _ => fun
  | [d] => { results := [.lit (.bool true)], args := [d] }
  | _ => none }
def txnFirstRow : OpenClaim := { program := "ytpfdfilkhaoibaa", sum := "a812567a1c72ef0adfa1a7b30270e5d1edd3100f803df7bee0fa22fdc9dfc95b", func := "pentimento/pentimentolaw18.TxnFirst", spec := "txnFirst", inPlace := ["slices.overlaps[pentimento/api.Write]", "slices.overlaps[pentimento/index.item]", "slices.overlaps[pentimento/index.block]"], unfollowed := true, recurses := true, apart := false }
def TxnFirstSaid : Prop := txnFirstRow.holds Try.pinned (OpenSpec.ofChange txnFirstSpec)

/-- ITS FALSE NEIGHBOUR: 'it returns false'. Refute it at one input. -/
def txnFirstWrong : ChangeSpec := { name := "txnFirst", fn := fun _ => fun
  | [d] => { results := [.lit (.bool false)], args := [d] }
  | _ => none }
def TxnFirstWrongFalsely : Prop := txnFirstRow.holds Try.pinned (OpenSpec.ofChange txnFirstWrong)

/-- 'pentimentolaw30.AuditSerial': WHATEVER THE INPUT: true; the input reads as it did. -/
def auditSerialSpec : ChangeSpec := { name := "auditSerial", fn := fun _ => fun
  | [d1, d2] => { results := [.lit (.bool true)], args := [d1, d2] }
  | _ => none }
def auditSerialRow : OpenClaim := { program := "ytpfdfilkhaoibaa", sum := "a812567a1c72ef0adfa1a7b30270e5d1edd3100f803df7bee0fa22fdc9dfc95b", func := "pentimento/pentimentolaw30.AuditSerial", spec := "auditSerial", inPlace := ["internal/bytealg.IndexByteString", "internal/bytealg.IndexString", "slices.overlaps[string]", "slices.overlaps[pentimento/api.Op]"], unfollowed := true, recurses := true, named := ["internal/bytealg.MaxLen"], apart := false }
def AuditSerialSaid : Prop := auditSerialRow.holds Try.pinned (OpenSpec.ofChange auditSerialSpec)

/-- ITS FALSE NEIGHBOUR: 'it returns false'. Refute it at one input. -/
def auditSerialWrong : ChangeSpec := { name := "auditSerial", fn := fun _ => fun
  | [d1, d2] => { results := [.lit (.bool false)], args := [d1, d2] }
  | _ => none }
def AuditSerialWrongFalsely : Prop := auditSerialRow.holds Try.pinned (OpenSpec.ofChange auditSerialWrong)

/- THE SECOND FORM. 'bulk': how many values and letters a reading holds, each counted each time it is reached (what is shared counts as often as it is met; a slice's spare places count too). A statement '..UptoSaid' is the law's where the arguments, and the package variables that the reading takes, are together of bulk at most 1048576: NARROWER than '..Said'. Prove '..Said' where nothing that the law and all that it calls make is longer than what came in: it says more and counts as full. Else prove '..UptoSaid'. A law counts once. -/
mutual
def uptoBulk {H : Type} : DataW H → Nat
  | .lit (.string bytes) => bytes.length + 1
  | .lit _ => 1
  | .nil => 1
  | .ptr d => uptoBulk d + 1
  | .slice elems spare => uptoBulkAll elems + uptoBulkAll spare + 1
  | .agg parts => uptoBulkAll parts + 1
  | .iface _ d => uptoBulk d + 1
  | .map entries => uptoBulkEntries entries + 1
  | .held _ => 1
def uptoBulkAll {H : Type} : List (DataW H) → Nat
  | [] => 0
  | d :: r => uptoBulk d + uptoBulkAll r
def uptoBulkEntries {H : Type} : List (Lit × DataW H) → Nat
  | [] => 0
  | x :: r => uptoBulkEntry x + uptoBulkEntries r
def uptoBulkEntry {H : Type} : Lit × DataW H → Nat
  | (.string bytes, d) => bytes.length + uptoBulk d + 1
  | (_, d) => uptoBulk d + 1
 end
def uptoSmall : (H : Type) → List (DataW H) → Bool := fun _ ds => decide (uptoBulkAll ds ≤ 1048576)
def OpenSpec.upto (s : _root_.Go.ChangeSpec) : _root_.Go.OpenSpec := { _root_.Go.OpenSpec.ofChange s with cond := some uptoSmall }

/-- 'pentimentolaw20.ViewWhole', WHERE WHAT IT READS IS OF BULK AT MOST 1048576: true; the input reads as it did. -/
def viewWholeUptoRow : OpenClaim := { program := "ytpfdfilkhaoibaa", sum := "a812567a1c72ef0adfa1a7b30270e5d1edd3100f803df7bee0fa22fdc9dfc95b", func := "pentimento/pentimentolaw20.ViewWhole", spec := "viewWhole", inPlace := ["slices.overlaps[pentimento/api.Write]"], unfollowed := true, recurses := true, apart := false, narrowed := true }
def ViewWholeUptoSaid : Prop := viewWholeUptoRow.holds Try.pinned (OpenSpec.upto viewWholeSpec)

/-- 'pentimentolaw30.AuditReads', WHERE WHAT IT READS IS OF BULK AT MOST 1048576: true; the input reads as it did. -/
def auditReadsUptoRow : OpenClaim := { program := "ytpfdfilkhaoibaa", sum := "a812567a1c72ef0adfa1a7b30270e5d1edd3100f803df7bee0fa22fdc9dfc95b", func := "pentimento/pentimentolaw30.AuditReads", spec := "auditReads", inPlace := ["internal/bytealg.IndexByteString", "internal/bytealg.IndexString"], unfollowed := true, recurses := true, named := ["internal/bytealg.MaxLen"], apart := false, narrowed := true }
def AuditReadsUptoSaid : Prop := auditReadsUptoRow.holds Try.pinned (OpenSpec.upto auditReadsSpec)

/-- 'pentimentolaw20.ViewPages', WHERE WHAT IT READS IS OF BULK AT MOST 1048576: true; the input reads as it did. -/
def viewPagesUptoRow : OpenClaim := { program := "ytpfdfilkhaoibaa", sum := "a812567a1c72ef0adfa1a7b30270e5d1edd3100f803df7bee0fa22fdc9dfc95b", func := "pentimento/pentimentolaw20.ViewPages", spec := "viewPages", inPlace := ["slices.overlaps[pentimento/api.Write]"], unfollowed := true, recurses := true, apart := false, narrowed := true }
def ViewPagesUptoSaid : Prop := viewPagesUptoRow.holds Try.pinned (OpenSpec.upto viewPagesSpec)

/-- 'pentimentolaw18.TxnFirst', WHERE WHAT IT READS IS OF BULK AT MOST 1048576: true; the input reads as it did. -/
def txnFirstUptoRow : OpenClaim := { program := "ytpfdfilkhaoibaa", sum := "a812567a1c72ef0adfa1a7b30270e5d1edd3100f803df7bee0fa22fdc9dfc95b", func := "pentimento/pentimentolaw18.TxnFirst", spec := "txnFirst", inPlace := ["slices.overlaps[pentimento/api.Write]", "slices.overlaps[pentimento/index.item]", "slices.overlaps[pentimento/index.block]"], unfollowed := true, recurses := true, apart := false, narrowed := true }
def TxnFirstUptoSaid : Prop := txnFirstUptoRow.holds Try.pinned (OpenSpec.upto txnFirstSpec)

/-- 'pentimentolaw30.AuditSerial', WHERE WHAT IT READS IS OF BULK AT MOST 1048576: true; the input reads as it did. -/
def auditSerialUptoRow : OpenClaim := { program := "ytpfdfilkhaoibaa", sum := "a812567a1c72ef0adfa1a7b30270e5d1edd3100f803df7bee0fa22fdc9dfc95b", func := "pentimento/pentimentolaw30.AuditSerial", spec := "auditSerial", inPlace := ["internal/bytealg.IndexByteString", "internal/bytealg.IndexString", "slices.overlaps[string]", "slices.overlaps[pentimento/api.Op]"], unfollowed := true, recurses := true, named := ["internal/bytealg.MaxLen"], apart := false, narrowed := true }
def AuditSerialUptoSaid : Prop := auditSerialUptoRow.holds Try.pinned (OpenSpec.upto auditSerialSpec)

end Rows
end Go.Proofs.Ytpfdfilkhaoibaa
