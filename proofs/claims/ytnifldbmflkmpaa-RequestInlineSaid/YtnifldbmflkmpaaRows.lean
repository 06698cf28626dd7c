/-
  NARROWER THAN 'FOR EVERY INPUT', by the rows' own cells (each row's printed sentence says how): RespApart: loops · RespMany: loops.
  DERIVED. THE GIVEN ROWS OF THIS SEAT. 11 by the template 'for every input the law returns true; each argument reads behind the call as it read before'; 0 by the template 'total and deterministic' (their statements: YtnifldbmflkmpaaTotals.lean).
  GIVEN WITH THE SEED: the statements are not yours to turn. If you find one false, say at which input.
  Laid BY PROGRAM, IN A SANDBOX (cutbox-rows.mjs): the forced cells as the released guide's own fill.sh prints them over the translation 8003d689aebcd86d… (all of the seat's roots in one cut). By AI agents, Wed Nov 11 2026. No macro, syntax, notation, axiom, sorry.
-/
import Derived.Test.YtnifldbmflkmpaaChecked
import GoSem.Claim
import GoSem.ClaimJoined
import GoSem.ClaimMapViews
import Derived.JoinedTies
import Derived.KernelRfl
namespace Go.Proofs.Ytnifldbmflkmpaa
/- THE CELL 'sum', in the pinned program and in every row, IS THE sha256 OF THE DUMP (.gsa) THAT YtnifldbmflkmpaaProg.lean LOADS. Nothing in Lean hashes anything: it is a label: what it is worth is what the hold of that sum in a sandbox is worth. -/
noncomputable def Try.pinned : Pinned := { name := "ytnifldbmflkmpaa", sum := "8003d689aebcd86d6b74f346ffb16310ec5ca6f501d555b89886e63e7b8888b7", checked := Try.checked }
namespace Rows
def none {H : Type} : Left H := { results := [], args := [] }

/-- 'pentimentolaw12.SetJoins': WHATEVER THE INPUT: true; the input reads as it did. -/
def setJoinsSpec : ChangeSpec := { name := "setJoins", fn := fun _ => fun
  | [d] => { results := [.lit (.bool true)], args := [d] }
  | _ => none }
def setJoinsRow : OpenClaim := { program := "ytnifldbmflkmpaa", sum := "8003d689aebcd86d6b74f346ffb16310ec5ca6f501d555b89886e63e7b8888b7", func := "pentimento/pentimentolaw12.SetJoins", spec := "setJoins", unfollowed := true, recurses := true, apart := false }
def SetJoinsSaid : Prop := setJoinsRow.holds Try.pinned (OpenSpec.ofChange setJoinsSpec)

/-- ITS FALSE NEIGHBOUR: 'it returns false'. Refute it at one input. -/
def setJoinsWrong : ChangeSpec := { name := "setJoins", fn := fun _ => fun
  | [d] => { results := [.lit (.bool false)], args := [d] }
  | _ => none }
def SetJoinsWrongFalsely : Prop := setJoinsRow.holds Try.pinned (OpenSpec.ofChange setJoinsWrong)

/-- 'pentimentolaw12.SetParts': WHATEVER THE INPUT: true; the input reads as it did. -/
def setPartsSpec : ChangeSpec := { name := "setParts", fn := fun _ => fun
  | [d1, d2] => { results := [.lit (.bool true)], args := [d1, d2] }
  | _ => none }
def setPartsRow : OpenClaim := { program := "ytnifldbmflkmpaa", sum := "8003d689aebcd86d6b74f346ffb16310ec5ca6f501d555b89886e63e7b8888b7", func := "pentimento/pentimentolaw12.SetParts", spec := "setParts", unfollowed := true, recurses := true, apart := false }
def SetPartsSaid : Prop := setPartsRow.holds Try.pinned (OpenSpec.ofChange setPartsSpec)

/-- ITS FALSE NEIGHBOUR: 'it returns false'. Refute it at one input. -/
def setPartsWrong : ChangeSpec := { name := "setParts", fn := fun _ => fun
  | [d1, d2] => { results := [.lit (.bool false)], args := [d1, d2] }
  | _ => none }
def SetPartsWrongFalsely : Prop := setPartsRow.holds Try.pinned (OpenSpec.ofChange setPartsWrong)

/-- 'pentimentolaw12.SetSizes': WHATEVER THE INPUT: true; the input reads as it did. -/
def setSizesSpec : ChangeSpec := { name := "setSizes", fn := fun _ => fun
  | [d1, d2] => { results := [.lit (.bool true)], args := [d1, d2] }
  | _ => none }
def setSizesRow : OpenClaim := { program := "ytnifldbmflkmpaa", sum := "8003d689aebcd86d6b74f346ffb16310ec5ca6f501d555b89886e63e7b8888b7", func := "pentimento/pentimentolaw12.SetSizes", spec := "setSizes", unfollowed := true, recurses := true, apart := false }
def SetSizesSaid : Prop := setSizesRow.holds Try.pinned (OpenSpec.ofChange setSizesSpec)

/-- ITS FALSE NEIGHBOUR: 'it returns false'. Refute it at one input. -/
def setSizesWrong : ChangeSpec := { name := "setSizes", fn := fun _ => fun
  | [d1, d2] => { results := [.lit (.bool false)], args := [d1, d2] }
  | _ => none }
def SetSizesWrongFalsely : Prop := setSizesRow.holds Try.pinned (OpenSpec.ofChange setSizesWrong)

/-- 'pentimentolaw04.RespApart': WHATEVER THE INPUT: true; the input reads as it did. -/
def respApartSpec : ChangeSpec := { name := "respApart", fn := fun _ => fun
  | [d1, d2] => { results := [.lit (.bool true)], args := [d1, d2] }
  | _ => none }
def respApartRow : OpenClaim := { program := "ytnifldbmflkmpaa", sum := "8003d689aebcd86d6b74f346ffb16310ec5ca6f501d555b89886e63e7b8888b7", func := "pentimento/pentimentolaw04.RespApart", spec := "respApart", inPlace := ["internal/bytealg.IndexByteString"], unfollowed := true, recurses := true, loops := true, apart := false }
def RespApartSaid : Prop := respApartRow.holds Try.pinned (OpenSpec.ofChange respApartSpec)

/-- ITS FALSE NEIGHBOUR: 'it returns false'. Refute it at one input. -/
def respApartWrong : ChangeSpec := { name := "respApart", fn := fun _ => fun
  | [d1, d2] => { results := [.lit (.bool false)], args := [d1, d2] }
  | _ => none }
def RespApartWrongFalsely : Prop := respApartRow.holds Try.pinned (OpenSpec.ofChange respApartWrong)

/-- 'pentimentolaw04.RespMakes': WHATEVER THE INPUT: true; the input reads as it did. -/
def respMakesSpec : ChangeSpec := { name := "respMakes", fn := fun _ => fun
  | [d1, d2, d3] => { results := [.lit (.bool true)], args := [d1, d2, d3] }
  | _ => none }
def respMakesRow : OpenClaim := { program := "ytnifldbmflkmpaa", sum := "8003d689aebcd86d6b74f346ffb16310ec5ca6f501d555b89886e63e7b8888b7", func := "pentimento/pentimentolaw04.RespMakes", spec := "respMakes", inPlace := ["internal/bytealg.IndexByteString"], unfollowed := true, recurses := true, apart := false }
def RespMakesSaid : Prop := respMakesRow.holds Try.pinned (OpenSpec.ofChange respMakesSpec)

/-- ITS FALSE NEIGHBOUR: 'it returns false'. Refute it at one input. -/
def respMakesWrong : ChangeSpec := { name := "respMakes", fn := fun _ => fun
  | [d1, d2, d3] => { results := [.lit (.bool false)], args := [d1, d2, d3] }
  | _ => none }
def RespMakesWrongFalsely : Prop := respMakesRow.holds Try.pinned (OpenSpec.ofChange respMakesWrong)

/-- 'pentimentolaw02.GlobStars': WHATEVER THE INPUT: true; the input reads as it did. -/
def globStarsSpec : ChangeSpec := { name := "globStars", fn := fun _ => fun
  | [d1, d2, d3] => { results := [.lit (.bool true)], args := [d1, d2, d3] }
  | _ => none }
def globStarsRow : OpenClaim := { program := "ytnifldbmflkmpaa", sum := "8003d689aebcd86d6b74f346ffb16310ec5ca6f501d555b89886e63e7b8888b7", func := "pentimento/pentimentolaw02.GlobStars", spec := "globStars", inPlace := ["internal/bytealg.IndexByteString", "internal/abi.NoEscape"], apart := false }
def GlobStarsSaid : Prop := globStarsRow.holds Try.pinned (OpenSpec.ofChange globStarsSpec)

/-- ITS FALSE NEIGHBOUR: 'it returns false'. Refute it at one input. -/
def globStarsWrong : ChangeSpec := { name := "globStars", fn := fun _ => fun
  | [d1, d2, d3] => { results := [.lit (.bool false)], args := [d1, d2, d3] }
  | _ => none }
def GlobStarsWrongFalsely : Prop := globStarsRow.holds Try.pinned (OpenSpec.ofChange globStarsWrong)

/-- 'pentimentolaw02.GlobQuotes': WHATEVER THE INPUT: true; the input reads as it did. -/
def globQuotesSpec : ChangeSpec := { name := "globQuotes", fn := fun _ => fun
  | [d1, d2] => { results := [.lit (.bool true)], args := [d1, d2] }
  | _ => none }
def globQuotesRow : OpenClaim := { program := "ytnifldbmflkmpaa", sum := "8003d689aebcd86d6b74f346ffb16310ec5ca6f501d555b89886e63e7b8888b7", func := "pentimento/pentimentolaw02.GlobQuotes", spec := "globQuotes", inPlace := ["internal/bytealg.IndexByteString", "internal/abi.NoEscape"], apart := false }
def GlobQuotesSaid : Prop := globQuotesRow.holds Try.pinned (OpenSpec.ofChange globQuotesSpec)

/-- ITS FALSE NEIGHBOUR: 'it returns false'. Refute it at one input. -/
def globQuotesWrong : ChangeSpec := { name := "globQuotes", fn := fun _ => fun
  | [d1, d2] => { results := [.lit (.bool false)], args := [d1, d2] }
  | _ => none }
def GlobQuotesWrongFalsely : Prop := globQuotesRow.holds Try.pinned (OpenSpec.ofChange globQuotesWrong)

/-- 'pentimentolaw05.RequestBack': WHATEVER THE INPUT: true; the input reads as it did. -/
def requestBackSpec : ChangeSpec := { name := "requestBack", fn := fun _ => fun
  | [d] => { results := [.lit (.bool true)], args := [d] }
  | _ => none }
def requestBackRow : OpenClaim := { program := "ytnifldbmflkmpaa", sum := "8003d689aebcd86d6b74f346ffb16310ec5ca6f501d555b89886e63e7b8888b7", func := "pentimento/pentimentolaw05.RequestBack", spec := "requestBack", inPlace := ["internal/bytealg.IndexByteString"], unfollowed := true, recurses := true, apart := false }
def RequestBackSaid : Prop := requestBackRow.holds Try.pinned (OpenSpec.ofChange requestBackSpec)

/-- ITS FALSE NEIGHBOUR: 'it returns false'. Refute it at one input. -/
def requestBackWrong : ChangeSpec := { name := "requestBack", fn := fun _ => fun
  | [d] => { results := [.lit (.bool false)], args := [d] }
  | _ => none }
def RequestBackWrongFalsely : Prop := requestBackRow.holds Try.pinned (OpenSpec.ofChange requestBackWrong)

/-- 'pentimentolaw05.RequestInline': WHATEVER THE INPUT: true; the input reads as it did. -/
def requestInlineSpec : ChangeSpec := { name := "requestInline", fn := fun _ => fun
  | [d1, d2] => { results := [.lit (.bool true)], args := [d1, d2] }
  | _ => none }
def requestInlineRow : OpenClaim := { program := "ytnifldbmflkmpaa", sum := "8003d689aebcd86d6b74f346ffb16310ec5ca6f501d555b89886e63e7b8888b7", func := "pentimento/pentimentolaw05.RequestInline", spec := "requestInline", inPlace := ["internal/bytealg.IndexByteString"], unfollowed := true, recurses := true, apart := false }
def RequestInlineSaid : Prop := requestInlineRow.holds Try.pinned (OpenSpec.ofChange requestInlineSpec)

/-- ITS FALSE NEIGHBOUR: 'it returns false'. Refute it at one input. -/
def requestInlineWrong : ChangeSpec := { name := "requestInline", fn := fun _ => fun
  | [d1, d2] => { results := [.lit (.bool false)], args := [d1, d2] }
  | _ => none }
def RequestInlineWrongFalsely : Prop := requestInlineRow.holds Try.pinned (OpenSpec.ofChange requestInlineWrong)

/-- 'pentimentolaw04.RespMany': WHATEVER THE INPUT: true; the input reads as it did. -/
def respManySpec : ChangeSpec := { name := "respMany", fn := fun _ => fun
  | [d] => { results := [.lit (.bool true)], args := [d] }
  | _ => none }
def respManyRow : OpenClaim := { program := "ytnifldbmflkmpaa", sum := "8003d689aebcd86d6b74f346ffb16310ec5ca6f501d555b89886e63e7b8888b7", func := "pentimento/pentimentolaw04.RespMany", spec := "respMany", inPlace := ["internal/bytealg.IndexByteString", "internal/bytealg.IndexString"], unfollowed := true, recurses := true, named := ["internal/bytealg.MaxLen"], loops := true, apart := false }
def RespManySaid : Prop := respManyRow.holds Try.pinned (OpenSpec.ofChange respManySpec)

/-- ITS FALSE NEIGHBOUR: 'it returns false'. Refute it at one input. -/
def respManyWrong : ChangeSpec := { name := "respMany", fn := fun _ => fun
  | [d] => { results := [.lit (.bool false)], args := [d] }
  | _ => none }
def RespManyWrongFalsely : Prop := respManyRow.holds Try.pinned (OpenSpec.ofChange respManyWrong)

/-- 'pentimentolaw12.SetTurns': WHATEVER THE INPUT: true; the input reads as it did. -/
def setTurnsSpec : ChangeSpec := { name := "setTurns", fn := fun _ => fun
  | [d1, d2, d3] => { results := [.lit (.bool true)], args := [d1, d2, d3] }
  | _ => none }
def setTurnsRow : OpenClaim := { program := "ytnifldbmflkmpaa", sum := "8003d689aebcd86d6b74f346ffb16310ec5ca6f501d555b89886e63e7b8888b7", func := "pentimento/pentimentolaw12.SetTurns", spec := "setTurns", unfollowed := true, recurses := true, apart := false }
def SetTurnsSaid : Prop := setTurnsRow.holds Try.pinned (OpenSpec.ofChange setTurnsSpec)

/-- ITS FALSE NEIGHBOUR: 'it returns false'. Refute it at one input. -/
def setTurnsWrong : ChangeSpec := { name := "setTurns", fn := fun _ => fun
  | [d1, d2, d3] => { results := [.lit (.bool false)], args := [d1, d2, d3] }
  | _ => none }
def SetTurnsWrongFalsely : Prop := setTurnsRow.holds Try.pinned (OpenSpec.ofChange setTurnsWrong)

/- THE SECOND FORM. 'bulk': how many values and letters a reading holds, each counted each time it is reached (what is shared counts as often as it is met; a slice's spare places count too). A statement '..UptoSaid' is the law's where the arguments, and the package variables that the reading takes, are together of bulk at most 1048576: NARROWER than '..Said'. Prove '..Said' where nothing that the law and all that it calls make is longer than what came in: it says more and counts as full. Else prove '..UptoSaid'. A law counts once. -/
mutual
def uptoBulk {H : Type} : DataW H → Nat
  | .lit (.string bytes) => bytes.length + 1
  | .lit _ => 1
  | .nil => 1
  | .ptr d => uptoBulk d + 1
  | .slice elems spare => uptoBulkAll elems + uptoBulkAll spare + 1
  | .agg parts => uptoBulkAll parts + 1
  | .iface _ d => uptoBulk d + 1
  | .map entries => uptoBulkEntries entries + 1
  | .held _ => 1
def uptoBulkAll {H : Type} : List (DataW H) → Nat
  | [] => 0
  | d :: r => uptoBulk d + uptoBulkAll r
def uptoBulkEntries {H : Type} : List (Lit × DataW H) → Nat
  | [] => 0
  | x :: r => uptoBulkEntry x + uptoBulkEntries r
def uptoBulkEntry {H : Type} : Lit × DataW H → Nat
  | (.string bytes, d) => bytes.length + uptoBulk d + 1
  | (_, d) => uptoBulk d + 1
 end
def uptoSmall : (H : Type) → List (DataW H) → Bool := fun _ ds => decide (uptoBulkAll ds ≤ 1048576)
def OpenSpec.upto (s : _root_.Go.ChangeSpec) : _root_.Go.OpenSpec := { _root_.Go.OpenSpec.ofChange s with cond := some uptoSmall }

/-- 'pentimentolaw12.SetJoins', WHERE WHAT IT READS IS OF BULK AT MOST 1048576: true; the input reads as it did. -/
def setJoinsUptoRow : OpenClaim := { program := "ytnifldbmflkmpaa", sum := "8003d689aebcd86d6b74f346ffb16310ec5ca6f501d555b89886e63e7b8888b7", func := "pentimento/pentimentolaw12.SetJoins", spec := "setJoins", unfollowed := true, recurses := true, apart := false, narrowed := true }
def SetJoinsUptoSaid : Prop := setJoinsUptoRow.holds Try.pinned (OpenSpec.upto setJoinsSpec)

/-- 'pentimentolaw12.SetParts', WHERE WHAT IT READS IS OF BULK AT MOST 1048576: true; the input reads as it did. -/
def setPartsUptoRow : OpenClaim := { program := "ytnifldbmflkmpaa", sum := "8003d689aebcd86d6b74f346ffb16310ec5ca6f501d555b89886e63e7b8888b7", func := "pentimento/pentimentolaw12.SetParts", spec := "setParts", unfollowed := true, recurses := true, apart := false, narrowed := true }
def SetPartsUptoSaid : Prop := setPartsUptoRow.holds Try.pinned (OpenSpec.upto setPartsSpec)

/-- 'pentimentolaw12.SetSizes', WHERE WHAT IT READS IS OF BULK AT MOST 1048576: true; the input reads as it did. -/
def setSizesUptoRow : OpenClaim := { program := "ytnifldbmflkmpaa", sum := "8003d689aebcd86d6b74f346ffb16310ec5ca6f501d555b89886e63e7b8888b7", func := "pentimento/pentimentolaw12.SetSizes", spec := "setSizes", unfollowed := true, recurses := true, apart := false, narrowed := true }
def SetSizesUptoSaid : Prop := setSizesUptoRow.holds Try.pinned (OpenSpec.upto setSizesSpec)

/-- 'pentimentolaw04.RespApart', WHERE WHAT IT READS IS OF BULK AT MOST 1048576: true; the input reads as it did. -/
def respApartUptoRow : OpenClaim := { program := "ytnifldbmflkmpaa", sum := "8003d689aebcd86d6b74f346ffb16310ec5ca6f501d555b89886e63e7b8888b7", func := "pentimento/pentimentolaw04.RespApart", spec := "respApart", inPlace := ["internal/bytealg.IndexByteString"], unfollowed := true, recurses := true, loops := true, apart := false, narrowed := true }
def RespApartUptoSaid : Prop := respApartUptoRow.holds Try.pinned (OpenSpec.upto respApartSpec)

/-- 'pentimentolaw04.RespMakes', WHERE WHAT IT READS IS OF BULK AT MOST 1048576: true; the input reads as it did. -/
def respMakesUptoRow : OpenClaim := { program := "ytnifldbmflkmpaa", sum := "8003d689aebcd86d6b74f346ffb16310ec5ca6f501d555b89886e63e7b8888b7", func := "pentimento/pentimentolaw04.RespMakes", spec := "respMakes", inPlace := ["internal/bytealg.IndexByteString"], unfollowed := true, recurses := true, apart := false, narrowed := true }
def RespMakesUptoSaid : Prop := respMakesUptoRow.holds Try.pinned (OpenSpec.upto respMakesSpec)

/-- 'pentimentolaw02.GlobStars', WHERE WHAT IT READS IS OF BULK AT MOST 1048576: true; the input reads as it did. -/
def globStarsUptoRow : OpenClaim := { program := "ytnifldbmflkmpaa", sum := "8003d689aebcd86d6b74f346ffb16310ec5ca6f501d555b89886e63e7b8888b7", func := "pentimento/pentimentolaw02.GlobStars", spec := "globStars", inPlace := ["internal/bytealg.IndexByteString", "internal/abi.NoEscape"], apart := false, narrowed := true }
def GlobStarsUptoSaid : Prop := globStarsUptoRow.holds Try.pinned (OpenSpec.upto globStarsSpec)

/-- 'pentimentolaw02.GlobQuotes', WHERE WHAT IT READS IS OF BULK AT MOST 1048576: true; the input reads as it did. -/
def globQuotesUptoRow : OpenClaim := { program := "ytnifldbmflkmpaa", sum := "8003d689aebcd86d6b74f346ffb16310ec5ca6f501d555b89886e63e7b8888b7", func := "pentimento/pentimentolaw02.GlobQuotes", spec := "globQuotes", inPlace := ["internal/bytealg.IndexByteString", "internal/abi.NoEscape"], apart := false, narrowed := true }
def GlobQuotesUptoSaid : Prop := globQuotesUptoRow.holds Try.pinned (OpenSpec.upto globQuotesSpec)

/-- 'pentimentolaw05.RequestBack', WHERE WHAT IT READS IS OF BULK AT MOST 1048576: true; the input reads as it did. -/
def requestBackUptoRow : OpenClaim := { program := "ytnifldbmflkmpaa", sum := "8003d689aebcd86d6b74f346ffb16310ec5ca6f501d555b89886e63e7b8888b7", func := "pentimento/pentimentolaw05.RequestBack", spec := "requestBack", inPlace := ["internal/bytealg.IndexByteString"], unfollowed := true, recurses := true, apart := false, narrowed := true }
def RequestBackUptoSaid : Prop := requestBackUptoRow.holds Try.pinned (OpenSpec.upto requestBackSpec)

/-- 'pentimentolaw05.RequestInline', WHERE WHAT IT READS IS OF BULK AT MOST 1048576: true; the input reads as it did. -/
def requestInlineUptoRow : OpenClaim := { program := "ytnifldbmflkmpaa", sum := "8003d689aebcd86d6b74f346ffb16310ec5ca6f501d555b89886e63e7b8888b7", func := "pentimento/pentimentolaw05.RequestInline", spec := "requestInline", inPlace := ["internal/bytealg.IndexByteString"], unfollowed := true, recurses := true, apart := false, narrowed := true }
def RequestInlineUptoSaid : Prop := requestInlineUptoRow.holds Try.pinned (OpenSpec.upto requestInlineSpec)

/-- 'pentimentolaw04.RespMany', WHERE WHAT IT READS IS OF BULK AT MOST 1048576: true; the input reads as it did. -/
def respManyUptoRow : OpenClaim := { program := "ytnifldbmflkmpaa", sum := "8003d689aebcd86d6b74f346ffb16310ec5ca6f501d555b89886e63e7b8888b7", func := "pentimento/pentimentolaw04.RespMany", spec := "respMany", inPlace := ["internal/bytealg.IndexByteString", "internal/bytealg.IndexString"], unfollowed := true, recurses := true, named := ["internal/bytealg.MaxLen"], loops := true, apart := false, narrowed := true }
def RespManyUptoSaid : Prop := respManyUptoRow.holds Try.pinned (OpenSpec.upto respManySpec)

/-- 'pentimentolaw12.SetTurns', WHERE WHAT IT READS IS OF BULK AT MOST 1048576: true; the input reads as it did. -/
def setTurnsUptoRow : OpenClaim := { program := "ytnifldbmflkmpaa", sum := "8003d689aebcd86d6b74f346ffb16310ec5ca6f501d555b89886e63e7b8888b7", func := "pentimento/pentimentolaw12.SetTurns", spec := "setTurns", unfollowed := true, recurses := true, apart := false, narrowed := true }
def SetTurnsUptoSaid : Prop := setTurnsUptoRow.holds Try.pinned (OpenSpec.upto setTurnsSpec)

end Rows
end Go.Proofs.Ytnifldbmflkmpaa
