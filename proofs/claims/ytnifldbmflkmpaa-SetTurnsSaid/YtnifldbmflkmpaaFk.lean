/-
  The functions of the set laws, as the evaluator runs them.
-/
import Derived.Test.YtnifldbmflkmpaaFj
namespace Go.Proofs.Ytnifldbmflkmpaa
open Go Ev
set_option linter.unusedVariables false
set_option linter.unusedSimpArgs false
set_option maxRecDepth 10000
theorem made_le (xs : List S) (n : Nat) (hn : n ≤ 100) : (madeS xs n).length ≤ 100 := Nat.le_trans (madeS_length xs n) hn
theorem parts_union (s t : List S) (hs : Sorted s) (ht : Sorted t) : unionS [interS [s, t], foldM notB s [t]] = s := by
  have h1 : Sorted (interS [s, t]) := sorted_mergeS _ _ _ hs ht
  have h2 : Sorted (foldM notB s [t]) := sorted_mergeS _ _ _ hs ht
  refine sorted_ext (sorted_foldM _ _ [] sorted_nil (by simp [h1, h2])) hs fun z => ?_
  rw [unionS, mem_orB _ [] sorted_nil (by simp [h1, h2])]
  simp only [List.not_mem_nil, false_or, List.mem_cons, exists_eq_or_imp, or_false, exists_eq_left, false_and, exists_false]
  rw [show interS [s, t] = mergeS andB s t from rfl, show foldM notB s [t] = mergeS notB s t from rfl, mem_mergeS _ s t hs ht, mem_mergeS _ s t hs ht]
  by_cases hz : z ∈ s <;> by_cases hz' : z ∈ t <;> simp [hz, hz', andB, notB]
theorem parts_apart (s t : List S) (hs : Sorted s) (ht : Sorted t) : interS [interS [s, t], foldM notB s [t]] = [] := by
  have h1 : Sorted (interS [s, t]) := sorted_mergeS _ _ _ hs ht
  have h2 : Sorted (foldM notB s [t]) := sorted_mergeS _ _ _ hs ht
  rw [List.eq_nil_iff_forall_not_mem]
  intro z hz
  have := (mem_mergeS andB _ _ h1 h2 z).1 hz
  rw [show interS [s, t] = mergeS andB s t from rfl, show foldM notB s [t] = mergeS notB s t from rfl, mem_mergeS _ s t hs ht, mem_mergeS _ s t hs ht] at this
  simp [andB, notB] at this
  exact absurd this.1.2 this.2.2
theorem short_inter (s t : List S) (hs : Sorted s) (ht : Sorted t) (c : Nat) (h : ∀ x ∈ s, x.length ≤ c) : ∀ x ∈ interS [s, t], x.length ≤ c := by
  intro x hx
  have := (mem_mergeS andB s t hs ht x).1 hx
  simp [andB] at this
  exact h x this.1
theorem short_diff (s t : List S) (hs : Sorted s) (ht : Sorted t) (c : Nat) (h : ∀ x ∈ s, x.length ≤ c) : ∀ x ∈ foldM notB s [t], x.length ≤ c := by
  intro x hx
  have := (mem_mergeS notB s t hs ht x).1 hx
  simp [notB] at this
  exact h x this.1
set_option maxHeartbeats 4000000 in
theorem setParts_ev (xs ys : List S) : ∃ k h d, evalF cfg k 4 [strs xs, strs ys] [] = some (.bool true, h, d) := by
  have hs := sorted_madeS xs 60
  have ht := sorted_madeS ys 60
  have ls := made_le xs 60 (by omega)
  have lt := made_le ys 60 (by omega)
  have ss := madeS_short xs 60
  have hMx := made_ok xs 60 (by omega)
  have hMy := made_ok ys 60 (by omega)
  generalize madeS xs 60 = s at *
  generalize madeS ys 60 = t at *
  have hI := inter_ok [s, t] (by simp) (by simp; omega)
  have hD := diff_ok s [t] (by simp) (by simp; omega) (by omega)
  have hU := union_ok [interS [s, t], foldM notB s [t]] (by simp) (by have := parts s t; rw [← show interS [s, t] = mergeS andB s t from rfl, ← show foldM notB s [t] = mergeS notB s t from rfl] at this; simp; omega)
  have hII := inter_ok [interS [s, t], foldM notB s [t]] (by simp) (by have := parts s t; rw [← show interS [s, t] = mergeS andB s t from rfl, ← show foldM notB s [t] = mergeS notB s t from rfl] at this; simp; omega)
  have hsum : (interS [s, t]).length + (foldM notB s [t]).length = s.length := parts s t
  have hRa := right_ok (interS [s, t]) (sorted_mergeS _ _ _ hs ht) (short_inter s t hs ht 4096 (fun x hx => by have := ss x hx; omega)) (by omega)
  have hRb := right_ok (foldM notB s [t]) (sorted_mergeS _ _ _ hs ht) (short_diff s t hs ht 4096 (fun x hx => by have := ss x hx; omega)) (by omega)
  rw [parts_union s t hs ht, if_pos (by omega)] at hU
  rw [parts_apart s t hs ht] at hII
  have hW := words_ok s s (by omega)
  generalize interS [s, t] = a at *
  generalize foldM notB s [t] = b at *
  refine law_of_body (by decide) Try.func4 rfl ?_
  refine Ev.seq (Ev.region ?_)
  apply EvOps.run
  · intro call; simp [Try.f4]; exact rfl
  refine Ev.seq (Ev.seq (Ev.region ?_))
  refine EvOps.call rfl (by simp) (by simp <;> exact rfl) (by simp <;> exact rfl) awake_ok ?_
  apply EvOps.run
  · intro call; simp; exact rfl
  refine Ev.cond false (by simp) (fun h => by simp at h) (fun _ => Ev.skip ?_)
  refine Ev.seq (Ev.region (EvOps.take 1 ?_))
  apply EvOps.run
  · intro call; simp; exact rfl
  refine EvOps.call rfl (by simp) (by simp <;> exact rfl) (by simp <;> exact rfl) hMx (EvOps.take 1 ?_)
  apply EvOps.run
  · intro call; simp; exact rfl
  refine EvOps.call rfl (by simp) (by simp <;> exact rfl) (by simp <;> exact rfl) hMy ?_
  apply EvOps.keep (h' := []) (d' := false) (fun fr => fr.length = 65 ∧ slotAt fr 5 = some (strs s) ∧ slotAt fr 6 = some (strs t))
  · intro call; simp; exact rfl
  · exact ⟨by simp, by simp, by simp⟩
  rintro fr ⟨hl, h5, h6⟩
  refine Ev.seq (Ev.region (EvOps.take 3 ?_))
  apply EvOps.run
  · intro call; simp [hl, h5, h6, buildSliceA, strs]; exact rfl
  refine EvOps.call rfl (by simp) (by simp [hl] <;> exact rfl) (by simp [strss, strs] <;> exact rfl) hI (EvOps.take 3 ?_)
  apply EvOps.run
  · intro call; simp [hl, h5, h6, buildSliceA, strs]; exact rfl
  refine EvOps.call rfl (by simp) (by simp [hl] <;> exact rfl) (by simp [strss, strs] <;> exact rfl) hD ?_
  apply EvOps.keep (h' := []) (d' := false) (fun fr => fr.length = 65 ∧ slotAt fr 5 = some (strs s) ∧ slotAt fr 7 = some (strs a) ∧ slotAt fr 8 = some (strs b))
  · intro call; simp [hl]; exact rfl
  · exact ⟨by simp [hl], by simp [hl, h5], by simp [hl, strs], by simp [hl]⟩
  clear hl h5 h6 fr
  rintro fr ⟨hl, h5, h7, h8⟩
  refine Ev.seq (Ev.region (EvOps.take 3 ?_))
  apply EvOps.run
  · intro call; simp [hl, h7, h8, buildSliceA, strs]; exact rfl
  refine EvOps.call rfl (by simp) (by simp [hl] <;> exact rfl) (by simp [strss, strs] <;> exact rfl) hU ?_
  apply EvOps.keep (h' := []) (d' := false) (fun fr => fr.length = 65 ∧ slotAt fr 5 = some (strs s) ∧ slotAt fr 7 = some (strs a) ∧ slotAt fr 8 = some (strs b) ∧ slotAt fr 9 = some (strs s) ∧ slotAt fr 10 = some (.int .i64 0))
  · intro call; simp [hl]; exact rfl
  · exact ⟨by simp [hl], by simp [hl, h5], by simp [hl, h7], by simp [hl, h8], by simp [hl], by simp [hl]⟩
  clear hl h5 h7 h8 fr
  rintro fr ⟨hl, h5, h7, h8, h9, h10⟩
  refine Ev.seq (Ev.region (EvOps.take 5 ?_))
  apply EvOps.run
  · intro call; simp [hl, h5, h7, h8, h9, h10]; exact rfl
  refine EvOps.call rfl (by simp [hl]) (by simp [hl] <;> exact rfl) (by simp <;> exact ⟨rfl, rfl⟩) hW (EvOps.take 5 ?_)
  apply EvOps.run
  · intro call; simp [hl, h5, h7, h8, h9, h10, buildSliceA, strs]; exact rfl
  refine EvOps.call rfl (by simp [hl]) (by simp [hl] <;> exact rfl) (by simp [strss, strs] <;> exact rfl) hII (EvOps.take 5 ?_)
  apply EvOps.run
  · intro call; simp [hl, h5, h7, h8, h9, h10, strs]; exact rfl
  refine EvOps.call rfl (by simp [hl]) (by simp [hl] <;> exact rfl) (by simp [strs] <;> exact rfl) hRa (EvOps.take 3 ?_)
  apply EvOps.run
  · intro call; simp [hl, h5, h7, h8, h9, h10, strs]; exact rfl
  refine EvOps.call rfl (by simp [hl]) (by simp [hl] <;> exact rfl) (by simp [strs] <;> exact rfl) hRb ?_
  apply EvOps.run
  · intro call; simp [hl, h5, h7, h8, h9, h10, strs, wrap_int ((a.length : Int) + b.length) (by omega) (by omega), show (a.length : Int) + b.length = s.length by omega, wrap_nat s.length (by omega)]; exact rfl
  exact Ev.ret ⟨by simp, by simp [Try.f4, hl]⟩
end Go.Proofs.Ytnifldbmflkmpaa
