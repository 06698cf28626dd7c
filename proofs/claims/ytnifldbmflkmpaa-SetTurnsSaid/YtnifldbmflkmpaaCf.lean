/-
  The seat's functions, as the evaluator takes them.
-/
import Derived.Test.YtnifldbmflkmpaaTy
import Derived.Test.YtnifldbmflkmpaaEvP
import Derived.Test.YtnifldbmflkmpaaEvT
import Derived.Test.YtnifldbmflkmpaaSg
namespace Go.Proofs.Ytnifldbmflkmpaa
open Go Ev
def pures : List Nat := [3, 4, 5, 14, 15, 16, 17, 18, 19, 20, 21, 22, 23, 51, 53, 55, 56, 57, 59, 60, 61, 79,
  6, 7, 12, 24, 25, 26, 27, 28, 29, 30, 31, 32, 33, 34, 35, 62, 72, 73, 80, 98,
  67, 82, 8, 9, 36, 37, 39, 65, 66, 81, 101, 102, 111, 112, 124, 131,
  10, 11, 12, 40, 42, 43, 45, 71, 75, 86, 87, 88, 89, 91, 105, 106, 113, 125,
  13, 48, 49, 50, 52, 54, 70, 84, 78, 96, 97, 109]
def impures : List Nat := [63, 99, 100, 110, 41, 46, 76, 90, 92]
/-- slices.Clone of a list whose elements have n cells. -/
def cloneA (n : Nat) : List AV → Option AV
  | [.list xs _ _ _] => if headOk n xs = true ∧ xs.length ≤ 68719476736 then some (.L (stripL xs)) else none
  | _ => none
/-- internal/bytealg.IndexByteString. -/
def idxA : List AV → Option AV
  | [.str s, .int .u8 c] => some (.int .i64 (Lib.indexByte s c.toNat.toUInt8))
  | _ => none
def quoteA : List AV → Option AV
  | [.str s] => if s.length ≤ 1000 then some (.str (quoteS s)) else none
  | _ => none
def strsOf? : List AV → Option (List S)
  | [] => some []
  | .str s :: xs => (strsOf? xs).map (s :: ·)
  | _ => none
/-- set.of. -/
def ofA : List AV → Option AV
  | [.list xs _ _ _] => (strsOf? xs).bind fun ss => if ss.length ≤ 1000 then some (strs (srt ss)) else none
  | _ => none
theorem strsOf_eq : ∀ {xs : List AV} {ss : List S}, strsOf? xs = some ss → xs = ss.map .str
  | [], ss, h => by simp only [strsOf?, Option.some.injEq] at h; subst h; rfl
  | x :: xs, ss, h => by
    unfold strsOf? at h
    split at h
    · rename_i e; cases e
    · rename_i s ys e
      cases e
      obtain ⟨t, h1, rfl⟩ := Option.map_eq_some_iff.1 h
      rw [strsOf_eq h1]; rfl
    · cases h
theorem strsOf_map : ∀ ss : List S, strsOf? (ss.map .str) = some ss
  | [] => rfl
  | s :: ss => by simp only [List.map_cons, strsOf?, strsOf_map ss, Option.map_some]
noncomputable def cfg : Cfg where
  P := Try.prog
  mode := fun f => if pures.contains f then .pure else if impures.contains f then .impure else .no
  prim := fun f => if f = 58 then some (cloneA 1) else if f = 64 then some (cloneA 4) else if f = 103 then some idxA else if f = 38 then some quoteA else if f = 77 then some ofA else none
@[simp] theorem cfgP : cfg.P = Try.prog := rfl
end Go.Proofs.Ytnifldbmflkmpaa
