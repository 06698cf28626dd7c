/-
  glob.Quote: its contract, by a walk over the library's contracts for strings.Builder.
-/
import Derived.Test.YtnifldbmflkmpaaQa
import Derived.Test.YtnifldbmflkmpaaShelf
import Derived.Test.YtnifldbmflkmpaaSg
import Derived.Lib.Walk
import Derived.Lib.Strings
import Derived.BigGuard
namespace Go.Proofs.Ytnifldbmflkmpaa
open Go Go.RowKit Go.Proofs
set_option linter.unusedVariables false
set_option maxRecDepth 1000000
set_option maxHeartbeats 4000000 in
theorem quote_walk (s : ByteArray) (w : World) (hs : s.size ≤ 1000) :
    Calls Try.prog 38 #[.string s] w fun e w' => e = .returned (.string ⟨(quoteS s.data.toList).toArray⟩) ∧ Below w.heap.size w w' := by
  go_enter Try.func38, Try.ntmps38
  go_wp2
  go_loopw [7] (fun vi wr => ∃ (i : Nat), vi = .int .i64 i ∧ i ≤ s.size ∧ Lib.IsBuilderF 91 5 w.heap.size w.heap.size (Lib.byteCells (quoteS (s.data.toList.take i))) wr ∧ Below w.heap.size w wr) (fun vi wr => s.size - (RowKit.intOf vi).toNat)
  case atStart =>
    refine ⟨0, rfl, by omega, ?_, ?_⟩
    · exact Lib.IsBuilderF.of (Lib.fresh_isBuilder 91 5 w)
    · exact (Below.refl _ w).alloc (Nat.le_refl _) _
  case round =>
    obtain ⟨i, rfl, hi, hI, hbw⟩ := hrel
    have hql := quote_len_take s.data.toList i
    have hl : s.data.toList.length = s.size := by simp
    have hbB : w.heap.size ≤ wr.heap.size := hbw.size
    have hlen : (Lib.byteCells (quoteS (List.take i s.data.toList))).length ≤ 2000 := by rw [Lib.byteCells_length]; omega
    clear hl hql
    by_cases hc : i < s.size
    · have hstep : Hid (quoteS (s.data.toList.take (i + 1)) = quoteS (s.data.toList.take i) ++ (if isSign s[i] then [92, s[i]] else [s[i]])) := by
        have h2 : i < s.data.toList.length := by simpa using hc
        have e : s.data.toList[i] = s[i] := by simp; rfl
        have := quote_take s.data.toList i h2
        rw [e] at this
        exact this
      have hsg : Hid (decide (0 ≤ Lib.indexByte [42, 63, 91, 92] s[i]) = isSign s[i]) := sign_idx _
      by_cases hx : 0 ≤ Lib.indexByte [42, 63, 91, 92] s[i]
      · go_wp2_with (first | (go_at_call 67; refine (Try.strings_IndexByte _ _ _).mono ?_) | (go_at_call 68; refine (byte_more w.heap.size w.heap.size _ 92 _ hI (by omega) (by omega)).mono ?_))
        rintro e w1 ⟨rfl, h1, b1⟩
        have hb1 : w.heap.size ≤ w1.heap.size := by have := b1.size; omega
        go_wp2_with (go_at_call 68; refine (byte_more w.heap.size w.heap.size _ _ _ (Or.inr h1) (by simp; omega) (by omega)).mono ?_)
        rintro e w2 ⟨rfl, h2, b2⟩
        go_wp2
        go_roundw
        case rel =>
          refine ⟨i + 1, by go_num, by omega, ?_, (hbw.trans b1).trans b2⟩
          have hs1 := hsg.out
          rw [decide_eq_true hx] at hs1
          rw [hstep.out, ← hs1, if_pos rfl, Lib.byteCells_append]
          refine Or.inr ?_
          have e2 : Lib.byteCells (quoteS (List.take i s.data.toList)) ++ Lib.byteCells [92, s[i]] = Lib.byteCells (quoteS (List.take i s.data.toList)) ++ [Value.int IntKind.u8 92] ++ [Value.int IntKind.u8 (s[i].toNat : Int)] := by simp [Lib.byteCells]
          rw [e2]
          exact h2
        case measure => simp [RowKit.intOf]; omega
      · go_wp2_with (first | (go_at_call 67; refine (Try.strings_IndexByte _ _ _).mono ?_) | (go_at_call 68; refine (byte_more w.heap.size w.heap.size _ _ _ hI (by omega) (by omega)).mono ?_))
        rintro e w1 ⟨rfl, h1, b1⟩
        go_wp2
        go_roundw
        case rel =>
          refine ⟨i + 1, by go_num, by omega, ?_, hbw.trans b1⟩
          have hs1 := hsg.out
          rw [show decide (0 ≤ Lib.indexByte [42, 63, 91, 92] s[i]) = false from decide_eq_false (by omega)] at hs1
          rw [hstep.out, ← hs1, if_neg (by simp), Lib.byteCells_append]
          refine Or.inr ?_
          exact h1
        case measure => simp [RowKit.intOf]; omega
    · go_wp2_with (go_at_call 69; refine (Try.Builder_String_any_k w.heap.size w.heap.size _ _ hI (by omega)).mono ?_)
      rintro e w1 ⟨rfl, h1, b1, _⟩
      go_wp2
      go_ret
      have hi2 : i = s.size := by omega
      rw [List.take_of_length_le (by simp; omega)]
      exact ⟨rfl, hbw.trans b1⟩
end Go.Proofs.Ytnifldbmflkmpaa
