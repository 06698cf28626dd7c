/-
  num.Print: a number's text.
-/
import Derived.Test.YtnifldbmflkmpaaCf
namespace Go.Proofs.Ytnifldbmflkmpaa
open Go Ev
set_option linter.unusedVariables false
set_option linter.unusedSimpArgs false
set_option maxRecDepth 10000
/-- Decimal digits. -/
def digs (n : Nat) : S := if n < 10 then [UInt8.ofNat (48 + n)] else digs (n / 10) ++ [UInt8.ofNat (48 + n % 10)]
termination_by n
decreasing_by omega
def decS (n : Int) : S := if n < 0 then 45 :: digs n.natAbs else digs n.natAbs
theorem digs_length : ∀ (k n : Nat), 0 < k → n < 10 ^ k → (digs n).length ≤ k
  | 0, _, h, _ => by omega
  | k + 1, n, _, h => by
    rw [digs]
    split
    · simp
    · rename_i hn
      have hk : 0 < k := by
        rcases Nat.eq_zero_or_pos k with e | e
        · subst e; simp at h; omega
        · exact e
      have := digs_length k (n / 10) hk (by rw [Nat.pow_succ] at h; omega)
      simp only [List.length_append, List.length_cons, List.length_nil]
      omega
theorem digs_pos (n : Nat) : 0 < (digs n).length := by rw [digs]; split <;> simp
theorem tmod10 (a : Int) : a.tmod 10 = (if a < 0 then -((a.natAbs % 10 : Nat) : Int) else ((a.natAbs % 10 : Nat) : Int)) := by
  cases a with
  | ofNat m => rw [if_neg (by simp)]; rfl
  | negSucc m => rw [if_pos (Int.negSucc_lt_zero m)]; rfl
theorem tdiv10 (a : Int) : (a.tdiv 10).natAbs = a.natAbs / 10 := by rw [Int.natAbs_tdiv]; rfl
theorem wrap_u8 (n : Nat) (h : n < 256) : IntKind.wrap .u8 (n : Int) = n := by simp [IntKind.wrap, IntKind.bits, IntKind.signed]; omega
end Go.Proofs.Ytnifldbmflkmpaa
