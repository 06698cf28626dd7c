/-
  The law SetTurns, run.
-/
import Derived.Test.YtnifldbmflkmpaaSb
import Derived.Test.YtnifldbmflkmpaaFk
namespace Go.Proofs.Ytnifldbmflkmpaa
open Go Ev
set_option linter.unusedVariables false
set_option linter.unusedSimpArgs false
set_option maxRecDepth 10000
/-- What a frame of the law holds. -/
structure KT (s ys : List S) (x : S) (inn : AV) (fr : List AV) : Prop where
  hl : fr.length = 115
  h1 : slotAt fr 1 = some (strs ys)
  h2 : slotAt fr 2 = some (.str x)
  h8 : slotAt fr 8 = some (strs s)
  h9 : slotAt fr 9 = some inn
theorem words_same (a : List S) (h : a.length ≤ 1000) : Ret cfg 18 [strs a, strs a] (.bool true) := by
  have := words_ok a a (by omega)
  rwa [show (a == a) = true by simp] at this
set_option maxHeartbeats 8000000 in
theorem setTurns_ev (xs ys : List S) (x : S) : ∃ k h d, evalF cfg k 13 [strs xs, strs ys, .str x] [] = some (.bool true, h, d) := by
  refine law_of_body (by decide) Try.func13 rfl ?_
  have hss := sorted_madeS xs 60
  have ls := made_le xs 60 (by omega)
  have lsh := madeS_short xs 60
  have hMx := made_ok xs 60 (by omega)
  generalize madeS xs 60 = s at *
  refine Ev.seq (Ev.region ?_)
  apply EvOps.keep (h' := []) (d' := false) (fun fr => fr.length = 115 ∧ slotAt fr 0 = some (strs xs) ∧ slotAt fr 1 = some (strs ys) ∧ slotAt fr 2 = some (.str x))
  · intro call; simp [Try.f13]; exact rfl
  · exact ⟨by simp, by simp, by simp, by simp⟩
  rintro fr ⟨hl, h0, h1, h2⟩
  refine Ev.seq (Ev.seq (Ev.region ?_))
  refine EvOps.call rfl (by simp) (by simp <;> exact rfl) (by simp <;> exact rfl) awake_ok ?_
  by_cases gy : 60 < ys.length
  · apply EvOps.keep (h' := []) (d' := false) (fun fr => fr.length = 115 ∧ slotAt fr 25 = some (.bool true))
    · intro call; simp [hl, h1, strs, show (60 : Int) < ys.length by omega]; exact rfl
    · exact ⟨by simp [hl], by simp [hl]⟩
    rintro fr ⟨hl, h25⟩
    refine Ev.cond true (by simp [h25]) (fun _ => ?_) (fun h => by simp at h)
    refine Ev.seq (Ev.region ?_)
    refine EvOps.call rfl (by simp) (by simp <;> exact rfl) (by simp <;> exact rfl) awake_ok ?_
    apply EvOps.run
    · intro call; simp [hl]; exact rfl
    exact Ev.ret ⟨by simp, by simp [Try.f13, hl]⟩
  apply EvOps.keep (h' := []) (d' := false) (fun fr => fr.length = 115 ∧ slotAt fr 0 = some (strs xs) ∧ slotAt fr 1 = some (strs ys) ∧ slotAt fr 2 = some (.str x) ∧ slotAt fr 25 = some (.bool false))
  · intro call; simp [hl, h1, strs, show ¬ (60 : Int) < ys.length by omega]; exact rfl
  · exact ⟨by simp [hl], by simp [h0, strs], by simp [h1, strs], by simp [h2], by simp [hl]⟩
  clear hl h0 h1 h2 fr
  rintro fr ⟨hl, h0, h1, h2, h25⟩
  refine Ev.cond false (by simp [h25]) (fun h => by simp at h) (fun _ => Ev.skip ?_)
  refine Ev.seq (Ev.seq (Ev.region ?_))
  apply EvOps.run
  · intro call; simp [hl]; exact rfl
  refine Ev.block ?_
  refine Ev.loop (fun m st => ∃ (fr : List AV) (i : Nat), st = ⟨fr, [], false⟩ ∧ fr.length = 115 ∧ slotAt fr 0 = some (strs xs) ∧ slotAt fr 1 = some (strs ys) ∧ slotAt fr 2 = some (.str x) ∧ slotAt fr 7 = some (.int .i64 (i : Nat)) ∧ i ≤ ys.length ∧ m = ys.length - i ∧ (∀ y ∈ ys.take i, y.length ≤ 5000)) ?_ ys.length _ ?_
  · clear hl h0 h1 h2 h25 fr
    rintro m st ⟨fr, i, rfl, hl, h0, h1, h2, h7, hi, rfl, hsh⟩
    refine Ev.seq (Ev.seq (Ev.region ?_))
    apply EvOps.run
    · intro call; simp [hl, h1, h7, strs]; exact rfl
    refine Ev.cond (decide (i < ys.length)) (by simp [hl]) (fun hc => Ev.skip ?_) (fun hc => Ev.exit ?_)
    · simp only [decide_eq_true_eq] at hc
      refine Ev.seq (Ev.block (Ev.seq (Ev.region ?_)))
      apply EvOps.run
      · intro call; simp [hl, h1, h7, strs, hc]; exact rfl
      refine Ev.cond (decide (5000 < (ys[i]).length)) (by simp [hl]; omega) (fun he => ?_) (fun he => Ev.skip ?_)
      · refine Ev.seq (Ev.region ?_)
        apply EvOps.run
        · intro call; simp [hl]; exact rfl
        exact Ev.ret ⟨by simp, by simp [Try.f13, hl]⟩
      · refine Ev.region ?_
        apply EvOps.run
        · intro call; simp [hl, h7, wrap_succ i (by omega)]; exact rfl
        refine ⟨ys.length - (i + 1), by omega, _, i + 1, rfl, by simp [hl], by simp [h0], by simp [h1], by simp [h2], by simp [hl], by omega, rfl, fun y hy => ?_⟩
        rw [List.take_add_one, List.getElem?_eq_getElem hc, List.mem_append] at hy
        rcases hy with hy | hy
        · exact hsh y hy
        · simp only [Option.toList_some, List.mem_singleton] at hy
          subst hy
          simp only [decide_eq_false_iff_not] at he
          omega
    · simp only [decide_eq_false_iff_not] at hc
      rw [List.take_of_length_le (by omega)] at hsh
      -- made
      refine Ev.seq (Ev.region (EvOps.take 1 ?_))
      apply EvOps.run
      · intro call; simp [hl, h0]; exact rfl
      refine EvOps.call rfl (by simp) (by simp [hl] <;> exact rfl) (by simp <;> exact ⟨rfl, rfl⟩) hMx ?_
      apply EvOps.keep (h' := []) (d' := false) (fun fr => fr.length = 115 ∧ slotAt fr 1 = some (strs ys) ∧ slotAt fr 2 = some (.str x) ∧ slotAt fr 8 = some (strs s))
      · intro call; simp [hl]; exact rfl
      · exact ⟨by simp [hl], by simp [h1], by simp [h2], by simp [hl]⟩
      clear hl h0 h1 h2 h7 hi hc fr i
      rintro fr ⟨hl, h1, h2, h8⟩
      refine Ev.seq (Ev.region (EvOps.take 2 ?_))
      apply EvOps.run
      · intro call; simp [hl, h8, buildSliceA]; exact rfl
      refine EvOps.append (x := .list [] true (some 0) none) (y := strs s) rfl rfl (by simp) (by simp [hl]) Try.underlying24 Try.underlying24 rfl Ty.s9 Ty.b9 Ty.z9 rfl (.inr (.inr ⟨true, rfl⟩)) (by simp) (ys := s.map .str) (by simp [elemsA, strs]) (by simp only [List.length_map, List.length_nil]; omega) ?_
      intro inn h1' hg hst
      have hinn : inn.strip = strs s := by rw [hg.strip]; simp [strs]
      apply EvOps.keep (h' := h1') (d' := false) (KT s ys x inn)
      · intro call; simp [hl]; exact rfl
      · exact ⟨by simp [hl], by simp [h1], by simp [h2], by simp [h8], by simp [hl]⟩
      clear hl h1 h2 h8 hst fr
      intro fr hK
      -- the answers of Add, of both
      obtain ⟨A, N, E, hA1, hA2, hA3⟩ : ∃ (A : List S) (N E : Int), Ret cfg 48 [strs s, strs ys] (.tuple [strs A, .int .i64 N, .int .i64 E]) ∧ Ret cfg 49 [strs s, strs ys] (.tuple [strs A, .int .i64 N, .int .i64 E]) ∧ A.length ≤ 400 := by
        have hr := refAdd_ok s ys (by omega) (by omega) (fun y hy => by have := lsh y hy; omega) hsh
        cases hal : anyLong ys with
        | true =>
          rw [hal, if_pos rfl] at hr
          exact ⟨[], 0, 12, addL_ok s ys (by omega) (by omega) hal, hr, by simp⟩
        | false =>
          rw [hal, if_neg (by simp)] at hr
          have ha := add_ok s ys (by omega) (by omega) hal
          rw [add_eq s ys hss] at ha
          have hpl := putAll_length ys s
          exact ⟨_, _, _, ha, hr, by omega⟩
      have hD := del_ok s ys (by omega) (by omega)
      rw [del_eq s ys hss] at hD
      have hW := without_ok s ys (by omega) (by omega)
      have hWe : withoutS s ys = s.filter (fun x => !hasS ys x) := rfl
      rw [hWe] at hW
      have hfl : (s.filter (fun x => !hasS ys x)).length ≤ s.length := List.length_filter_le _ _
      generalize s.filter (fun x => !hasS ys x) = D at hD hW hfl
      obtain ⟨hl, h1, h2, h8, h9⟩ := hK
      refine Ev.seq (Ev.region (EvOps.take 2 ?_))
      apply EvOps.run
      · intro call; simp [hl, h1, h9]; exact rfl
      refine EvOps.call rfl (by simp) (by simp [hl] <;> exact rfl) (by simp [hinn] <;> exact ⟨rfl, rfl⟩) hA1 ?_
      apply EvOps.keep (h' := h1') (d' := false) (fun fr => KT s ys x inn fr ∧ slotAt fr 10 = some (strs A) ∧ slotAt fr 11 = some (.int .i64 N) ∧ slotAt fr 12 = some (.int .i64 E))
      · intro call; simp [hl]; exact rfl
      · exact ⟨⟨by simp [hl], by simp [h1], by simp [h2], by simp [h8], by simp [h9]⟩, by simp [hl], by simp [hl], by simp [hl]⟩
      clear hl h1 h2 h8 h9 fr
      rintro fr ⟨⟨hl, h1, h2, h8, h9⟩, h10, h11, h12⟩
      refine Ev.seq (Ev.region (EvOps.take 2 ?_))
      apply EvOps.run
      · intro call; simp [hl, h1, h8]; exact rfl
      refine EvOps.call rfl (by simp) (by simp [hl] <;> exact rfl) (by simp <;> exact ⟨rfl, rfl⟩) hA2 ?_
      apply EvOps.keep (h' := h1') (d' := false) (fun fr => KT s ys x inn fr ∧ slotAt fr 10 = some (strs A) ∧ slotAt fr 11 = some (.int .i64 N) ∧ slotAt fr 12 = some (.int .i64 E) ∧ slotAt fr 13 = some (strs A) ∧ slotAt fr 14 = some (.int .i64 N) ∧ slotAt fr 15 = some (.int .i64 E))
      · intro call; simp [hl]; exact rfl
      · exact ⟨⟨by simp [hl], by simp [h1], by simp [h2], by simp [h8], by simp [h9]⟩, by simp [h10], by simp [h11], by simp [h12], by simp [hl], by simp [hl], by simp [hl]⟩
      clear hl h1 h2 h8 h9 h10 h11 h12 fr
      rintro fr ⟨⟨hl, h1, h2, h8, h9⟩, h10, h11, h12, h13, h14, h15⟩
      refine Ev.seq (Ev.region (EvOps.take 2 ?_))
      apply EvOps.run
      · intro call; simp [hl, h1, h9]; exact rfl
      refine EvOps.call rfl (by simp) (by simp [hl] <;> exact rfl) (by simp [hinn] <;> exact ⟨rfl, rfl⟩) hD ?_
      apply EvOps.keep (h' := h1') (d' := false) (fun fr => KT s ys x inn fr ∧ slotAt fr 10 = some (strs A) ∧ slotAt fr 11 = some (.int .i64 N) ∧ slotAt fr 12 = some (.int .i64 E) ∧ slotAt fr 13 = some (strs A) ∧ slotAt fr 14 = some (.int .i64 N) ∧ slotAt fr 15 = some (.int .i64 E) ∧ slotAt fr 16 = some (strs D) ∧ slotAt fr 17 = some (.int .i64 ((s.length : Int) - (D.length : Int))))
      · intro call; simp [hl]; exact rfl
      · exact ⟨⟨by simp [hl], by simp [h1], by simp [h2], by simp [h8], by simp [h9]⟩, by simp [h10], by simp [h11], by simp [h12], by simp [h13], by simp [h14], by simp [h15], by simp [hl], by simp [hl]⟩
      clear hl h1 h2 h8 h9 h10 h11 h12 h13 h14 h15 fr
      rintro fr ⟨⟨hl, h1, h2, h8, h9⟩, h10, h11, h12, h13, h14, h15, h16, h17⟩
      refine Ev.seq (Ev.region (EvOps.take 2 ?_))
      apply EvOps.run
      · intro call; simp [hl, h1, h8]; exact rfl
      refine EvOps.call rfl (by simp) (by simp [hl] <;> exact rfl) (by simp <;> exact ⟨rfl, rfl⟩) hW ?_
      apply EvOps.keep (h' := h1') (d' := false) (fun fr => KT s ys x inn fr ∧ slotAt fr 10 = some (strs A) ∧ slotAt fr 11 = some (.int .i64 N) ∧ slotAt fr 12 = some (.int .i64 E) ∧ slotAt fr 13 = some (strs A) ∧ slotAt fr 14 = some (.int .i64 N) ∧ slotAt fr 15 = some (.int .i64 E) ∧ slotAt fr 16 = some (strs D) ∧ slotAt fr 17 = some (.int .i64 ((s.length : Int) - (D.length : Int))) ∧ slotAt fr 18 = some (strs D))
      · intro call; simp [hl]; exact rfl
      · exact ⟨⟨by simp [hl], by simp [h1], by simp [h2], by simp [h8], by simp [h9]⟩, by simp [h10], by simp [h11], by simp [h12], by simp [h13], by simp [h14], by simp [h15], by simp [h16], by simp [h17], by simp [hl]⟩
      clear hl h1 h2 h8 h9 h10 h11 h12 h13 h14 h15 h16 h17 fr
      rintro fr ⟨⟨hl, h1, h2, h8, h9⟩, h10, h11, h12, h13, h14, h15, h16, h17, h18⟩
      -- the verdict
      refine Ev.seq (Ev.region (EvOps.take 2 ?_))
      apply EvOps.run
      · intro call; simp [hl, h10, h13]; exact rfl
      refine EvOps.call rfl (by simp) (by simp [hl] <;> exact rfl) (by simp <;> exact ⟨rfl, rfl⟩) (words_same A (by omega)) (EvOps.take 13 ?_)
      apply EvOps.keep (h' := h1') (d' := false) (fun fr => KT s ys x inn fr ∧ slotAt fr 17 = some (.int .i64 ((s.length : Int) - (D.length : Int))) ∧ slotAt fr 18 = some (strs D) ∧ slotAt fr 80 = some (.bool true) ∧ slotAt fr 81 = some (strs D) ∧ slotAt fr 82 = some (strs D))
      · intro call; simp [hl, h11, h12, h14, h15, h16, h18]; exact rfl
      · exact ⟨⟨by simp [hl], by simp [h1], by simp [h2], by simp [h8], by simp [h9]⟩, by simp [h17], by simp [h18], by simp [hl], by simp [hl], by simp [hl]⟩
      clear hl h1 h2 h8 h9 h10 h11 h12 h13 h14 h15 h16 h17 h18 fr
      rintro fr ⟨⟨hl, h1, h2, h8, h9⟩, h17, h18, h80, h81, h82⟩
      refine EvOps.call rfl (by simp [h80]) (by simp [h81, h82] <;> exact rfl) (by simp <;> exact ⟨rfl, rfl⟩) (words_same D (by omega)) (EvOps.take 13 ?_)
      apply EvOps.keep (h' := h1') (d' := false) (fun fr => KT s ys x inn fr ∧ slotAt fr 94 = some (.bool true) ∧ slotAt fr 95 = some inn ∧ slotAt fr 96 = some (.str x))
      · intro call; simp [hl, h2, h8, h9, h17, h18, h80, strs, wrap_int ((s.length : Int) - (D.length : Int)) (by omega) (by omega)]; exact rfl
      · exact ⟨⟨by simp [hl], by simp [h1, strs], by simp [h2], by simp [h8, strs], by simp [h9]⟩, by simp [hl], by simp [hl], by simp [hl]⟩
      clear hl h1 h2 h8 h9 h17 h18 h80 h81 h82 fr
      rintro fr ⟨⟨hl, h1, h2, h8, h9⟩, h94, h95, h96⟩
      refine EvOps.call rfl (by simp [h94]) (by simp [h95, h96] <;> exact rfl) (by simp [hinn] <;> exact ⟨rfl, rfl⟩) (hasB_ok s x hss (by omega)) (EvOps.take 2 ?_)
      apply EvOps.run
      · intro call; simp [hl, h2, h8, h94]; exact rfl
      refine EvOps.call rfl (by simp [hl, h94]) (by simp [hl] <;> exact rfl) (by simp <;> exact ⟨rfl, rfl⟩) (has_ok s x (by omega)) (EvOps.take 4 ?_)
      generalize hasS s x = hb
      apply EvOps.keep (h' := h1') (d' := false) (fun fr => KT s ys x inn fr ∧ slotAt fr 103 = some (.bool true) ∧ slotAt fr 104 = some (strs ys))
      · intro call; simp [hl, h1, h94, eqA]; exact rfl
      · exact ⟨⟨by simp [hl], by simp [h1], by simp [h2], by simp [h8], by simp [h9]⟩, by simp [hl], by simp [hl]⟩
      clear hl h1 h2 h8 h9 h94 h95 h96 fr
      rintro fr ⟨⟨hl, h1, h2, h8, h9⟩, h103, h104⟩
      refine EvOps.call rfl (by simp [h103]) (by simp [h104] <;> exact rfl) (by simp <;> exact rfl) (rightG_ok ys (by omega)) (EvOps.take 1 ?_)
      apply EvOps.run
      · intro call; simp [hl, h1, h103]; exact rfl
      refine EvOps.call rfl (by simp [hl, h103]) (by simp [hl] <;> exact rfl) (by simp <;> exact rfl) (refRightG_ok ys (by omega) hsh) (EvOps.take 5 ?_)
      generalize rightG ys = rb
      apply EvOps.run
      · intro call; simp [hl, h8, h9, h103, eqA]; exact rfl
      refine EvOps.call rfl (by simp [hl]) (by simp [hl] <;> exact rfl) (by simp [hinn] <;> exact ⟨rfl, rfl⟩) (words_same s (by omega)) ?_
      apply EvOps.run
      · intro call; simp [hl]; exact rfl
      exact Ev.ret ⟨by simp, by simp [Try.f13, hl]⟩
  · exact ⟨_, 0, rfl, by simp [hl], by simp [h0], by simp [h1], by simp [h2], by simp [hl], by omega, rfl, by simp⟩
end Go.Proofs.Ytnifldbmflkmpaa
