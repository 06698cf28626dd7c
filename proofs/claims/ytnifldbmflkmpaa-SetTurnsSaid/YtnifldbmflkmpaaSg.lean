/-
  Texts; the signs of a pattern, a text's quoted pattern; the place of an octet in a text.
-/
import Derived.Lib.Bytealg
import Derived.Lib.SlicesCompact
namespace Go.Proofs.Ytnifldbmflkmpaa
open Go
set_option linter.unusedVariables false
set_option linter.unusedSimpArgs false
/-- Texts. -/
abbrev S := List UInt8
/-- The octets that are signs of a pattern; a text's quoted pattern. -/
def isSign (b : UInt8) : Bool := b == 42 || b == 63 || b == 91 || b == 92
def quoteS (s : S) : S := s.flatMap fun b => if isSign b then [92, b] else [b]
theorem quote_len : ∀ s : S, (quoteS s).length ≤ 2 * s.length
  | [] => by simp [quoteS]
  | b :: s => by
    have e : quoteS (b :: s) = (if isSign b then [92, b] else [b]) ++ quoteS s := by simp [quoteS]
    have := quote_len s
    rw [e, List.length_append, List.length_cons]
    split <;> simp only [List.length_cons, List.length_nil] <;> omega
theorem idx_none : ∀ (s : S) (c : UInt8), decide (Lib.indexByte s c < 0) = s.all (fun b => b != c)
  | [], c => by simp [Lib.indexByte]
  | b :: s, c => by
    have ih := idx_none s c
    have h1 : -1 ≤ Lib.indexByte s c := by
      clear ih
      induction s with
      | nil => simp [Lib.indexByte]
      | cons b s ih => unfold Lib.indexByte; split <;> (try split) <;> omega
    simp only [List.all_cons, ← ih]
    have hstep : Lib.indexByte (b :: s) c = if (b == c) = true then 0 else if (Lib.indexByte s c == -1) = true then -1 else Lib.indexByte s c + 1 := by rw [Lib.indexByte]
    rw [hstep]
    cases hb : (b == c) with
    | true => simp [bne, hb]
    | false =>
      simp only [bne, hb, Bool.not_false, Bool.true_and, Bool.false_eq_true, if_false]
      split
      · rename_i h
        simp only [beq_iff_eq] at h
        rw [h]
      · rename_i h
        simp only [beq_iff_eq] at h
        rw [decide_eq_decide]
        omega
theorem sign_idx (b : UInt8) : decide (0 ≤ Lib.indexByte [42, 63, 91, 92] b) = isSign b := by
  have h := idx_none [42, 63, 91, 92] b
  have h2 : decide (0 ≤ Lib.indexByte [42, 63, 91, 92] b) = !decide (Lib.indexByte [42, 63, 91, 92] b < 0) := by
    rw [← decide_not, decide_eq_decide]; omega
  rw [h2, h]
  simp only [List.all_cons, List.all_nil, Bool.and_true, isSign, bne, Bool.not_and, Bool.not_not, Bool.beq_comm]
  cases (b == 42) <;> cases (b == 63) <;> cases (b == 91) <;> cases (b == 92) <;> rfl
theorem quote_take (s : S) (i : Nat) (h : i < s.length) : quoteS (s.take (i + 1)) = quoteS (s.take i) ++ (if isSign s[i] then [92, s[i]] else [s[i]]) := by
  rw [List.take_add_one, List.getElem?_eq_getElem h]
  simp only [quoteS, Option.toList, List.flatMap_append, List.flatMap_cons, List.flatMap_nil, List.append_nil]
theorem quote_len_take (s : S) (i : Nat) : (quoteS (s.take i)).length ≤ 2 * s.length := by
  have := quote_len (s.take i)
  rw [List.length_take] at this
  omega
/-- Texts in order, each once. -/
def srt (ss : List (List UInt8)) : List (List UInt8) := Lib.compact (ss.mergeSort fun x y => decide (x ≤ y))
end Go.Proofs.Ytnifldbmflkmpaa
