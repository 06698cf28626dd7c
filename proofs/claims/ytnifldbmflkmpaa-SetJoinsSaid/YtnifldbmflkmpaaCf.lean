/-
  The seat's functions, as the evaluator takes them.
-/
import Derived.Test.YtnifldbmflkmpaaTy
import Derived.Test.YtnifldbmflkmpaaEvP
import Derived.Test.YtnifldbmflkmpaaEvR
namespace Go.Proofs.Ytnifldbmflkmpaa
open Go Ev
def pures : List Nat := [3, 4, 5, 14, 15, 16, 17, 18, 19, 20, 21, 22, 23, 51, 53, 55, 56, 57, 59, 60, 61, 79]
/-- slices.Clone of a list of texts. -/
def cloneA : List AV → Option AV
  | [.list xs _ _ _] => if headOk 1 xs = true ∧ xs.length ≤ 1099511627776 then some (.L (stripL xs)) else none
  | _ => none
noncomputable def cfg : Cfg where
  P := Try.prog
  mode := fun f => if pures.contains f then .pure else .no
  prim := fun f => if f = 58 then some cloneA else none
@[simp] theorem cfgP : cfg.P = Try.prog := rfl
/-- Texts. -/
abbrev S := List UInt8
end Go.Proofs.Ytnifldbmflkmpaa
