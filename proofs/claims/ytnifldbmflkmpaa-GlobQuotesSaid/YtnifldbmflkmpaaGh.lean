/-
  pentimentoref04.Right: which replies are right.
-/
import Derived.Test.YtnifldbmflkmpaaGg
namespace Go.Proofs.Ytnifldbmflkmpaa
open Go Ev
set_option linter.unusedVariables false
set_option linter.unusedSimpArgs false
set_option maxRecDepth 10000
def badHead (k : Int) (s : S) (n : Int) (l : List R) : Bool :=
  decide (k < 0) || decide (5 < k) || (k != 5 && decide (0 < l.length)) || (k != 2 && n != 0) || (k != 0 && k != 1 && k != 3 && s != [])
def lineS (s : S) : Bool := s.all (fun b => b != 13 && b != 10)
mutual
def rightR (d : Nat) : R → Bool
  | .mk k s n l => !badHead k s n l && (decide (2 ≤ k) || lineS s) && (k != 5 || d != 0) && rightRs (d - 1) l
def rightRs (d : Nat) : List R → Bool
  | [] => true
  | r :: l => rightR d r && rightRs d l
end
end Go.Proofs.Ytnifldbmflkmpaa
