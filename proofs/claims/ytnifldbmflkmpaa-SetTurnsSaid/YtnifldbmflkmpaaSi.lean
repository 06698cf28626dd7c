/-
  Texts in order: what sorting and striking out leaves; the laws of Add and Del.
-/
import Derived.Test.YtnifldbmflkmpaaFj
import Derived.Sort.Walk0
import Derived.Lib.RowBridge
namespace Go.Proofs.Ytnifldbmflkmpaa
open Go Ev
set_option linter.unusedVariables false
set_option linter.unusedSimpArgs false
theorem keeps_iff (d : List S) (j : Nat) (hj : j < d.length) : Lib.keeps d.toArray j = true ↔ j = 0 ∨ d[j]? ≠ d[j - 1]? := by
  simp only [Lib.keeps, decide_eq_true_eq]
  have e1 : d.toArray[j]! = d[j] := by simp [hj]
  have e2 : d.toArray[j - 1]! = d[j - 1]'(by omega) := by simp [show j - 1 < d.length by omega]
  rw [e1, e2, List.getElem?_eq_getElem hj, List.getElem?_eq_getElem (show j - 1 < d.length by omega)]
  simp
theorem mem_compact_upto (d : List S) : ∀ m, m ≤ d.length → ∀ z, z ∈ Lib.compactUpTo d.toArray m ↔ z ∈ d.take m
  | 0, _, z => by simp [Lib.compactUpTo]
  | m + 1, hm, z => by
    have ih := mem_compact_upto d m (by omega) z
    rw [Lib.compactUpTo_succ, List.mem_append, ih, List.take_add_one, List.getElem?_eq_getElem (by omega), List.mem_append]
    have e1 : d.toArray[m]! = d[m] := by simp [show m < d.length by omega]
    rw [e1]
    by_cases hk : Lib.keeps d.toArray m = true
    · rw [if_pos hk]; simp
    · rw [if_neg hk]
      have := mt (keeps_iff d m (by omega)).2 hk
      simp only [not_or, ne_eq, Classical.not_not] at this
      obtain ⟨h0, he⟩ := this
      simp only [List.not_mem_nil, or_false, Option.toList_some, List.mem_singleton]
      constructor
      · exact .inl
      · rintro (h | rfl)
        · exact h
        · rw [List.getElem?_eq_getElem (show m < d.length by omega), List.getElem?_eq_getElem (show m - 1 < d.length by omega)] at he
          simp only [Option.some.injEq] at he
          rw [he, List.mem_take_iff_getElem]
          exact ⟨m - 1, by omega, rfl⟩
theorem le_lt {x y z : S} (h : Op.bytesLess y x = false) (k : Op.bytesLess y z = true) : Op.bytesLess x z = true := by
  cases h' : Op.bytesLess x y with
  | true => exact lt_trans h' k
  | false => have := lt_tri h' h; subst this; exact k
theorem sorted_compact (d : List S) (hd : d.Pairwise fun x y => Op.bytesLess y x = false) : Sorted (Lib.compact d) := by
  unfold Sorted Lib.compact Lib.compactUpTo
  rw [List.pairwise_map, List.pairwise_filter]
  refine List.Pairwise.imp_of_mem ?_ (List.pairwise_lt_range (n := d.length))
  intro i j hi hj hij _ hkj
  rw [List.mem_range] at hi hj
  have e1 : d.toArray[i]! = d[i] := by simp [hi]
  have e2 : d.toArray[j]! = d[j] := by simp [hj]
  rw [e1, e2]
  have hk := (keeps_iff d j hj).1 hkj
  have hj1 : j - 1 < d.length := by omega
  rw [List.getElem?_eq_getElem hj, List.getElem?_eq_getElem hj1] at hk
  have hne : d[j] ≠ d[j - 1] := by
    rcases hk with hk | hk
    · omega
    · intro e; exact hk (by rw [e])
  rw [List.pairwise_iff_getElem] at hd
  have h1 : Op.bytesLess d[j - 1] d[j] = true := by
    cases h : Op.bytesLess d[j - 1] d[j] with
    | true => rfl
    | false => exact (hne (lt_tri (hd (j - 1) j hj1 hj (by omega)) h)).elim
  by_cases e : i = j - 1
  · subst e; exact h1
  · exact le_lt (hd i (j - 1) hi hj1 (by omega)) h1
theorem sort_pairwise (ss : List S) : (ss.mergeSort fun x y => decide (x ≤ y)).Pairwise fun x y => Op.bytesLess y x = false := by
  have := List.pairwise_mergeSort (le := fun x y : S => decide (x ≤ y)) (by intro a b c h1 h2; simp only [decide_eq_true_eq] at *; exact List.le_trans h1 h2) (by intro a b; simp only [Bool.or_eq_true, decide_eq_true_eq]; exact List.le_total a b) ss
  refine this.imp ?_
  intro a b h
  simp only [decide_eq_true_eq] at h
  rw [bytesLess_eq, decide_eq_false_iff_not]
  exact List.not_lt.2 h
theorem sorted_srt (ss : List S) : Sorted (srt ss) := sorted_compact _ (sort_pairwise ss)
theorem mem_srt (ss : List S) (z : S) : z ∈ srt ss ↔ z ∈ ss := by
  unfold srt Lib.compact
  rw [mem_compact_upto _ _ (Nat.le_refl _), List.take_length, List.mem_mergeSort]
theorem srt_length (ss : List S) : (srt ss).length ≤ ss.length := by
  have := Lib.compact_length_le (ss.mergeSort fun x y => decide (x ≤ y))
  rw [List.length_mergeSort] at this
  exact this
/-- Add and Del agree with what is put in, and taken away, one by one. -/
theorem add_eq (s ys : List S) (hs : Sorted s) : mergeS orB s (srt ys) = putAll s ys :=
  sorted_ext (sorted_mergeS _ _ _ hs (sorted_srt ys)) (sorted_putAll ys hs) fun z => by
    rw [mem_mergeS _ _ _ hs (sorted_srt ys), mem_srt, mem_putAll]
    simp only [orB]
    by_cases h1 : z ∈ s <;> by_cases h2 : z ∈ ys <;> simp [h1, h2]
theorem del_eq (s ys : List S) (hs : Sorted s) : mergeS notB s (srt ys) = s.filter (fun x => !hasS ys x) :=
  sorted_ext (sorted_mergeS _ _ _ hs (sorted_srt ys)) (sorted_filter _ hs) fun z => by
    rw [mem_mergeS _ _ _ hs (sorted_srt ys), mem_srt, List.mem_filter]
    simp only [notB, Bool.not_eq_true', ← Bool.not_eq_true, hasS_iff]
    by_cases h1 : z ∈ s <;> by_cases h2 : z ∈ ys <;> simp [h1, h2]
end Go.Proofs.Ytnifldbmflkmpaa
