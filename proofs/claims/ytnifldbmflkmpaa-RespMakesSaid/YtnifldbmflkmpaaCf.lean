/-
  The seat's functions, as the evaluator takes them.
-/
import Derived.Test.YtnifldbmflkmpaaTy
import Derived.Test.YtnifldbmflkmpaaEvP
import Derived.Test.YtnifldbmflkmpaaEvR
namespace Go.Proofs.Ytnifldbmflkmpaa
open Go Ev
def pures : List Nat := [3, 4, 5, 14, 15, 16, 17, 18, 19, 20, 21, 22, 23, 51, 53, 55, 56, 57, 59, 60, 61, 79,
  6, 7, 12, 24, 25, 26, 27, 28, 29, 30, 31, 32, 33, 34, 35, 62, 72, 73, 80, 98]
def impures : List Nat := [63, 99, 100, 110]
/-- slices.Clone of a list whose elements have n cells. -/
def cloneA (n : Nat) : List AV → Option AV
  | [.list xs _ _ _] => if headOk n xs = true ∧ xs.length ≤ 68719476736 then some (.L (stripL xs)) else none
  | _ => none
noncomputable def cfg : Cfg where
  P := Try.prog
  mode := fun f => if pures.contains f then .pure else if impures.contains f then .impure else .no
  prim := fun f => if f = 58 then some (cloneA 1) else if f = 64 then some (cloneA 4) else none
@[simp] theorem cfgP : cfg.P = Try.prog := rfl
/-- Texts. -/
abbrev S := List UInt8
end Go.Proofs.Ytnifldbmflkmpaa
