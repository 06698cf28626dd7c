/-
  RespMakes: the run, and why it answers true.
-/
import Derived.Test.YtnifldbmflkmpaaGb
namespace Go.Proofs.Ytnifldbmflkmpaa
open Go Ev
set_option linter.unusedVariables false
set_option linter.unusedSimpArgs false
set_option maxRecDepth 100000
theorem awake4_ok : Ret cfg 24 [] (.bool true) := by
  have he : evalF cfg 60 24 [] [] = some (.bool true, [], false) := by kernel_rfl
  exact Ret.of_eval rfl rfl (by simp) (by simp) he (by simp)
mutual
theorem sameR_self : ∀ r : R, sameR r r = true
  | .mk k s n l => by simp only [sameR, beq_self_eq_true, Bool.true_and, sameRs_self l]
theorem sameRs_self : ∀ l : List R, sameRs l l = true
  | [] => by simp only [sameRs]
  | r :: l => by simp only [sameRs, sameR_self r, sameRs_self l, Bool.true_and]
end
theorem same_self (r : R) (h : okR r) : Ret cfg 28 [aR r, aR r] (.bool true) := by
  have := same_ok r r h
  rwa [sameR_self] at this
set_option maxHeartbeats 4000000 in
theorem respMakes_ev (s : S) (n : Int) (ss : List S) : ∃ k h d, evalF cfg k 7 [.str s, .int .i64 n, strs ss] [] = some (.bool true, h, d) := by
  refine law_of_body (by decide) Try.func7 rfl ?_
  refine Ev.seq (Ev.region ?_)
  apply EvOps.run
  · intro call; simp [Try.f7]; exact rfl
  refine Ev.seq (Ev.seq (Ev.region ?_))
  refine EvOps.call rfl (by simp) (by simp <;> exact rfl) (by simp <;> exact rfl) awake4_ok ?_
  have early : ∀ fr : List AV, fr.length = 80 →
      Ev cfg 0 ((Try.f7.body.get rfl) |> fun c => match c with | .seq _ (.seq (.seq _ (.cond _ c _)) _) => c | _ => .skip) ⟨fr, [], false⟩
        (onNormal (fun _ => False) (fun x st => (∀ i, x ≠ .exit i) ∧ resultsA cfg.P Try.f7.results.toList st.fr st.h = some (.bool true))) := by
    intro fr hl
    refine Ev.seq (Ev.region ?_)
    refine EvOps.call rfl (by simp) (by simp <;> exact rfl) (by simp <;> exact rfl) awake4_ok ?_
    apply EvOps.run
    · intro call; simp [hl]; exact rfl
    exact Ev.ret ⟨by simp, by simp [Try.f7, hl]⟩
  by_cases c1 : (1000 : Int) < s.length
  · apply EvOps.keep (h' := []) (d' := false) (fun fr => fr.length = 80 ∧ slotAt fr 21 = some (.bool true))
    · intro call; simp [c1]; exact rfl
    · exact ⟨by simp, by simp⟩
    rintro fr ⟨hl, h21⟩
    refine Ev.cond true (by simp [h21]) (fun _ => ?_) (fun h => by simp at h)
    refine (early fr hl).mono ?_
    intro x s hs; cases x <;> simp only [onNormal] at hs ⊢ <;> first | exact hs | exact hs.elim
  by_cases c2 : (50 : Int) < ss.length
  · apply EvOps.keep (h' := []) (d' := false) (fun fr => fr.length = 80 ∧ slotAt fr 21 = some (.bool true))
    · intro call; simp [c1, c2, strs]; exact rfl
    · exact ⟨by simp, by simp⟩
    rintro fr ⟨hl, h21⟩
    refine Ev.cond true (by simp [h21]) (fun _ => ?_) (fun h => by simp at h)
    refine (early fr hl).mono ?_
    intro x s hs; cases x <;> simp only [onNormal] at hs ⊢ <;> first | exact hs | exact hs.elim
  have hb : ss.length < 2 ^ 36 := by omega
  apply EvOps.keep (h' := []) (d' := false) (fun fr => fr.length = 80 ∧ slotAt fr 0 = some (.str s) ∧ slotAt fr 1 = some (.int .i64 n) ∧ slotAt fr 2 = some (strs ss) ∧ slotAt fr 21 = some (.bool false))
  · intro call; simp [c1, c2, strs]; exact rfl
  · exact ⟨by simp, by simp, by simp, by simp [strs], by simp⟩
  clear early
  rintro fr ⟨hl, h0, h1, h2, h21⟩
  refine Ev.cond false (by simp [h21]) (fun h => by simp at h) (fun _ => Ev.skip ?_)
  refine Ev.seq (Ev.region (EvOps.take 1 ?_))
  apply EvOps.run
  · intro call; simp [hl, h2]; exact rfl
  refine EvOps.call rfl (by simp) (by simp [hl] <;> exact rfl) (by simp <;> exact rfl) (strs2_ok ss hb) ?_
  apply EvOps.keep (h' := [.cells [.int .i64 5, .str [], .int .i64 0, rs (ss.map bulk)]]) (d' := false) (fun fr => fr.length = 80 ∧ slotAt fr 0 = some (.str s) ∧ slotAt fr 1 = some (.int .i64 n) ∧ slotAt fr 2 = some (strs ss) ∧ slotAt fr 7 = some (.ptr 0 0))
  · intro call; simp [hl, aR, splice, rs]; exact rfl
  · exact ⟨by simp [hl], by simp [h0], by simp [h1], by simp [h2], by simp [hl]⟩
  clear hl h0 h1 h2 h21 fr
  rintro fr ⟨hl, h0, h1, h2, h7⟩
  refine Ev.seq (Ev.seq (Ev.region ?_))
  apply EvOps.keep (h' := [.cells [.int .i64 5, .str [], .int .i64 0, rs (ss.map bulk)]]) (d' := false) (fun fr => fr.length = 80 ∧ slotAt fr 0 = some (.str s) ∧ slotAt fr 1 = some (.int .i64 n) ∧ slotAt fr 2 = some (strs ss) ∧ slotAt fr 7 = some (.ptr 0 0) ∧ slotAt fr 35 = some (.bool false))
  · intro call; simp [hl, h2, h7, rs, strs]; exact rfl
  · exact ⟨by simp [hl], by simp [h0], by simp [h1], by simp [h2], by simp [h7], by simp [hl]⟩
  clear hl h0 h1 h2 h7 fr
  rintro fr ⟨hl, h0, h1, h2, h7, h35⟩
  refine Ev.cond false (by simp [h35]) (fun h => by simp at h) (fun _ => Ev.skip ?_)
  refine Ev.seq (Ev.seq (Ev.region ?_))
  apply EvOps.run
  · intro call; simp; exact rfl
  refine Ev.block ?_
  refine Ev.loop (fun m st => ∃ fr i, st = ⟨fr, [.cells [.int .i64 5, .str [], .int .i64 0, rs (ss.map bulk)]], false⟩ ∧ fr.length = 80 ∧ slotAt fr 0 = some (.str s) ∧ slotAt fr 1 = some (.int .i64 n) ∧ slotAt fr 2 = some (strs ss) ∧ slotAt fr 7 = some (.ptr 0 0) ∧ slotAt fr 8 = some (.int .i64 (i : Nat)) ∧ i ≤ ss.length ∧ m = ss.length - i) ?_ ss.length _ ?_
  · rintro m st ⟨fr, i, rfl, hl, h0, h1, h2, h7, h8, hi, rfl⟩
    refine Ev.seq (Ev.seq (Ev.region ?_))
    apply EvOps.run
    · intro call; simp [hl, h2, h8, strs]; exact rfl
    refine Ev.cond (decide (i < ss.length)) (by simp [hl]) (fun hc => Ev.skip ?_) (fun hc => Ev.exit ?_)
    · simp only [decide_eq_true_eq] at hc
      refine Ev.seq (Ev.block (Ev.seq (Ev.region (EvOps.take 10 ?_))))
      apply EvOps.run
      · intro call; simp [hl, h2, h7, h8, rs, strs, hc, bulk, aR, aRs, buildA, structPlaces, fillA, splice]; exact rfl
      refine EvOps.call rfl (by simp) (by simp [hl] <;> exact rfl) (by simp [bulk, aR, aRs]) (same_self (bulk ss[i]) (by simp [bulk, okR, okRs])) ?_
      apply EvOps.run
      · intro call; simp [hl]; exact rfl
      refine Ev.cond false (by simp [hl]) (fun h => by simp at h) (fun _ => Ev.skip ?_)
      refine Ev.region ?_
      apply EvOps.run
      · intro call; simp [hl, h8, wrap_succ i (by omega)]; exact rfl
      exact ⟨ss.length - (i + 1), by omega, _, i + 1, rfl, by simp [hl], by simp [h0], by simp [h1], by simp [h2], by simp [h7], by simp [hl], by omega, rfl⟩
    · refine Ev.seq (Ev.region (EvOps.take 1 ?_))
      apply EvOps.run
      · intro call; simp [hl, h0]; exact rfl
      refine EvOps.call rfl (by simp) (by simp [hl] <;> exact rfl) (by simp <;> exact rfl) (text_ok s) (EvOps.take 1 ?_)
      apply EvOps.run
      · intro call; simp [hl, h0]; exact rfl
      refine EvOps.call rfl (by simp) (by simp [hl] <;> exact rfl) (by simp <;> exact rfl) (wrong_ok s) (EvOps.take 1 ?_)
      apply EvOps.run
      · intro call; simp [hl, h1]; exact rfl
      refine EvOps.call rfl (by simp) (by simp [hl] <;> exact rfl) (by simp <;> exact rfl) (int_ok n) (EvOps.take 1 ?_)
      apply EvOps.run
      · intro call; simp [hl, h0]; exact rfl
      refine EvOps.call rfl (by simp) (by simp [hl] <;> exact rfl) (by simp <;> exact rfl) (str_ok s) ?_
      refine EvOps.call rfl (by simp) (by simp [hl] <;> exact rfl) (by simp <;> exact rfl) none_ok ?_
      refine EvOps.call rfl (by simp) (by simp [hl] <;> exact rfl) (by simp [rs, aRs] <;> exact rfl) (list_ok [] (by simp)) (EvOps.take 1 ?_)
      apply EvOps.run
      · intro call; simp [hl, buildSliceA, aR, aRs, List.range, List.range.loop]; exact rfl
      refine EvOps.call rfl (by simp) (by simp [hl] <;> exact rfl) (by simp [rs, aR, aRs]) (list_ok [.mk 0 s 0 [], .mk 1 s 0 [], .mk 2 [] n [], .mk 3 s 0 [], .mk 4 [] 0 [], .mk 5 [] 0 []] (by simp)) ?_
      apply EvOps.keep (h' := [.cells [.int .i64 5, .str [], .int .i64 0, rs (ss.map bulk)], .cells [.int .i64 5, .str [], .int .i64 0, rs [.mk 0 s 0 [], .mk 1 s 0 [], .mk 2 [] n [], .mk 3 s 0 [], .mk 4 [] 0 [], .mk 5 [] 0 []]]]) (d' := false) (fun fr => fr.length = 80 ∧ slotAt fr 0 = some (.str s) ∧ slotAt fr 1 = some (.int .i64 n) ∧ slotAt fr 9 = some (.ptr 1 0))
      · intro call; simp [hl, aR, splice, rs]; exact rfl
      · exact ⟨by simp [hl], by simp [h0], by simp [h1], by simp [hl]⟩
      clear hl h0 h1 h2 h7 h8 fr
      rintro fr ⟨hl, h0, h1, h9⟩
      refine Ev.seq (Ev.region (EvOps.take 13 ?_))
      apply EvOps.run
      · intro call; simp [hl, h0, h1, h9, rs, aR, aRs, buildA, structPlaces, fillA, splice, buildSliceA, List.range, List.range.loop]; exact rfl
      refine EvOps.call rfl (by simp) (by simp [hl] <;> exact rfl) (by simp [rs, aR, aRs]) (same_self (.mk 5 [] 0 [.mk 0 s 0 [], .mk 1 s 0 [], .mk 2 [] n [], .mk 3 s 0 [], .mk 4 [] 0 [], .mk 5 [] 0 []]) (by simp [okR, okRs])) ?_
      apply EvOps.run
      · intro call; simp [hl]; exact rfl
      exact Ev.ret ⟨by simp, by simp [Try.f7, hl]⟩
  · exact ⟨_, 0, rfl, by simp [hl], by simp [h0], by simp [h1], by simp [h2], by simp [h7], by simp [hl], by omega, rfl⟩
end Go.Proofs.Ytnifldbmflkmpaa
