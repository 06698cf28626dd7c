/-
  SetSizes: the run, and why it answers true.
-/
import Derived.Test.YtnifldbmflkmpaaFl
namespace Go.Proofs.Ytnifldbmflkmpaa
open Go Ev
set_option linter.unusedVariables false
set_option linter.unusedSimpArgs false
set_option maxRecDepth 10000
theorem union_two (s t : List S) : unionS [s, t] = mergeS orB s t := by
  show mergeS orB (mergeS orB [] s) t = _
  rw [merge_nil]
theorem union_comm (s t : List S) (hs : Sorted s) (ht : Sorted t) : unionS [t, s] = unionS [s, t] := by
  rw [union_two, union_two]
  refine sorted_ext (sorted_mergeS _ _ _ ht hs) (sorted_mergeS _ _ _ hs ht) fun z => ?_
  rw [mem_mergeS _ t s ht hs, mem_mergeS _ s t hs ht]
  by_cases hz : z ∈ s <;> by_cases hz' : z ∈ t <;> simp [hz, hz', orB]
theorem inter_comm (s t : List S) (hs : Sorted s) (ht : Sorted t) : interS [t, s] = interS [s, t] := by
  show mergeS andB t s = mergeS andB s t
  refine sorted_ext (sorted_mergeS _ _ _ ht hs) (sorted_mergeS _ _ _ hs ht) fun z => ?_
  rw [mem_mergeS _ t s ht hs, mem_mergeS _ s t hs ht]
  by_cases hz : z ∈ s <;> by_cases hz' : z ∈ t <;> simp [hz, hz', andB]
theorem short_union (s t : List S) (hs : Sorted s) (ht : Sorted t) (c : Nat) (h : ∀ x ∈ s, x.length ≤ c) (h' : ∀ x ∈ t, x.length ≤ c) : ∀ x ∈ unionS [s, t], x.length ≤ c := by
  intro x hx
  rw [union_two] at hx
  rcases mem_of_mergeS orB hs ht hx with e | e
  · exact h x e
  · exact h' x e
set_option maxHeartbeats 4000000 in
theorem setSizes_ev (xs ys : List S) : ∃ k h d, evalF cfg k 5 [strs xs, strs ys] [] = some (.bool true, h, d) := by
  have hs := sorted_madeS xs 60
  have ht := sorted_madeS ys 60
  have ls := made_le xs 60 (by omega)
  have lt := made_le ys 60 (by omega)
  have ss := madeS_short xs 60
  have st := madeS_short ys 60
  have hMx := made_ok xs 60 (by omega)
  have hMy := made_ok ys 60 (by omega)
  generalize madeS xs 60 = s at *
  generalize madeS ys 60 = t at *
  have hI := inter_ok [s, t] (by simp) (by simp; omega)
  have hJ := inter_ok [t, s] (by simp) (by simp; omega)
  have hU := union_ok [s, t] (by simp) (by simp; omega)
  have hV := union_ok [t, s] (by simp) (by simp; omega)
  have hsum : (unionS [s, t]).length + (interS [s, t]).length = s.length + t.length := by rw [union_two]; exact sizes s t
  have hul : (unionS [s, t]).length ≤ 512 := by omega
  have hR := right_ok (unionS [s, t]) (by rw [union_two]; exact sorted_mergeS _ _ _ hs ht) (short_union s t hs ht 4096 (fun x hx => by have := ss x hx; omega) (fun x hx => by have := st x hx; omega)) hul
  rw [union_comm s t hs ht, if_pos hul] at hV
  rw [if_pos hul] at hU
  rw [inter_comm s t hs ht] at hJ
  have hW := words_ok (unionS [s, t]) (unionS [s, t]) (by omega)
  have hX := words_ok (interS [s, t]) (interS [s, t]) (by omega)
  generalize interS [s, t] = p at *
  generalize unionS [s, t] = u at *
  refine law_of_body (by decide) Try.func5 rfl ?_
  refine Ev.seq (Ev.region ?_)
  apply EvOps.run
  · intro call; simp [Try.f5]; exact rfl
  refine Ev.seq (Ev.seq (Ev.region ?_))
  refine EvOps.call rfl (by simp) (by simp <;> exact rfl) (by simp <;> exact rfl) awake_ok ?_
  apply EvOps.run
  · intro call; simp; exact rfl
  refine Ev.cond false (by simp) (fun h => by simp at h) (fun _ => Ev.skip ?_)
  refine Ev.seq (Ev.region (EvOps.take 1 ?_))
  apply EvOps.run
  · intro call; simp; exact rfl
  refine EvOps.call rfl (by simp) (by simp <;> exact rfl) (by simp <;> exact rfl) hMx (EvOps.take 1 ?_)
  apply EvOps.run
  · intro call; simp; exact rfl
  refine EvOps.call rfl (by simp) (by simp <;> exact rfl) (by simp <;> exact rfl) hMy ?_
  apply EvOps.keep (h' := []) (d' := false) (fun fr => fr.length = 73 ∧ slotAt fr 5 = some (strs s) ∧ slotAt fr 6 = some (strs t))
  · intro call; simp; exact rfl
  · exact ⟨by simp, by simp, by simp⟩
  rintro fr ⟨hl, h5, h6⟩
  refine Ev.seq (Ev.region (EvOps.take 3 ?_))
  apply EvOps.run
  · intro call; simp [hl, h5, h6, buildSliceA, strs]; exact rfl
  refine EvOps.call rfl (by simp) (by simp [hl] <;> exact rfl) (by simp [strss, strs] <;> exact rfl) hU ?_
  apply EvOps.keep (h' := []) (d' := false) (fun fr => fr.length = 73 ∧ slotAt fr 5 = some (strs s) ∧ slotAt fr 6 = some (strs t) ∧ slotAt fr 7 = some (strs u) ∧ slotAt fr 8 = some (.int .i64 0))
  · intro call; simp [hl]; exact rfl
  · exact ⟨by simp [hl], by simp [h5], by simp [h6], by simp [hl], by simp [hl]⟩
  clear hl h5 h6 fr
  rintro fr ⟨hl, h5, h6, h7, h8⟩
  refine Ev.seq (Ev.region (EvOps.take 3 ?_))
  apply EvOps.run
  · intro call; simp [hl, h5, h6, buildSliceA, strs]; exact rfl
  refine EvOps.call rfl (by simp) (by simp [hl] <;> exact rfl) (by simp [strss, strs] <;> exact rfl) hV ?_
  apply EvOps.keep (h' := []) (d' := false) (fun fr => fr.length = 73 ∧ slotAt fr 5 = some (strs s) ∧ slotAt fr 6 = some (strs t) ∧ slotAt fr 7 = some (strs u) ∧ slotAt fr 8 = some (.int .i64 0) ∧ slotAt fr 9 = some (strs u) ∧ slotAt fr 10 = some (.int .i64 0))
  · intro call; simp [hl]; exact rfl
  · exact ⟨by simp [hl], by simp [h5], by simp [h6], by simp [h7], by simp [h8], by simp [hl], by simp [hl]⟩
  clear hl h5 h6 h7 h8 fr
  rintro fr ⟨hl, h5, h6, h7, h8, h9, h10⟩
  refine Ev.seq (Ev.region (EvOps.take 9 ?_))
  apply EvOps.run
  · intro call; simp [hl, h5, h6, h7, h8, h9, h10]; exact rfl
  refine EvOps.call rfl (by simp [hl]) (by simp [hl] <;> exact rfl) (by simp <;> exact ⟨rfl, rfl⟩) hW (EvOps.take 5 ?_)
  apply EvOps.run
  · intro call; simp [hl, h5, h6, h7, h8, h9, h10, buildSliceA, strs]; exact rfl
  refine EvOps.call rfl (by simp [hl]) (by simp [hl] <;> exact rfl) (by simp [strss, strs] <;> exact rfl) hI (EvOps.take 3 ?_)
  apply EvOps.run
  · intro call; simp [hl, h5, h6, h7, h8, h9, h10, buildSliceA, strs]; exact rfl
  refine EvOps.call rfl (by simp [hl]) (by simp [hl] <;> exact rfl) (by simp [strss, strs] <;> exact rfl) hJ ?_
  refine EvOps.call rfl (by simp [hl]) (by simp [hl] <;> exact rfl) (by simp [strs] <;> exact ⟨rfl, rfl⟩) hX (EvOps.take 7 ?_)
  apply EvOps.run
  · intro call; simp [hl, h5, h6, h7, h8, h9, h10, buildSliceA, strs]; exact rfl
  refine EvOps.call rfl (by simp [hl]) (by simp [hl] <;> exact rfl) (by simp [strss, strs] <;> exact rfl) hI (EvOps.take 11 ?_)
  apply EvOps.run
  · intro call; simp [hl, h5, h6, h7, h8, h9, h10, strs, wrap_int ((u.length : Int) + p.length) (by omega) (by omega), wrap_int ((s.length : Int) + t.length) (by omega) (by omega), show (u.length : Int) + p.length = s.length + t.length by omega]; exact rfl
  refine EvOps.call rfl (by simp [hl]) (by simp [hl] <;> exact rfl) (by simp [strs] <;> exact rfl) hR ?_
  apply EvOps.run
  · intro call; simp [hl]; exact rfl
  exact Ev.ret ⟨by simp, by simp [Try.f5, hl]⟩
end Go.Proofs.Ytnifldbmflkmpaa
