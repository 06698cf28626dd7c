/-
  The law GlobQuotes, run.
-/
import Derived.Test.YtnifldbmflkmpaaPe
namespace Go.Proofs.Ytnifldbmflkmpaa
open Go Ev
set_option linter.unusedVariables false
set_option linter.unusedSimpArgs false
set_option maxRecDepth 10000
set_option maxHeartbeats 4000000 in
theorem globQuotes_ev (s t : S) : ∃ k h d, evalF cfg k 9 [.str s, .str t] [] = some (.bool true, h, d) := by
  refine law_of_body (by decide) Try.func9 rfl ?_
  refine Ev.seq (Ev.region ?_)
  apply EvOps.keep (h' := []) (d' := false) (fun fr => fr.length = 52 ∧ slotAt fr 0 = some (.str s) ∧ slotAt fr 1 = some (.str t))
  · intro call; simp [Try.f9]; exact rfl
  · exact ⟨by simp, by simp, by simp⟩
  rintro fr ⟨hl, h0, h1⟩
  have bad : ∀ fr : List AV, fr.length = 52 → slotAt fr 17 = some (.bool true) → Ev cfg 0 ((Try.f9.body.get rfl) |> fun c => match c with | .seq _ (.seq (.seq _ c) _) => c | _ => .skip) ⟨fr, [], false⟩ (onNormal (fun s => False) (fun x st => (∀ i, x ≠ .exit i) ∧ resultsA cfg.P Try.f9.results.toList st.fr st.h = some (.bool true))) := by
    intro fr hl h17
    refine Ev.cond true (by simp [h17]) (fun _ => ?_) (fun h => by simp at h)
    refine Ev.seq (Ev.region ?_)
    refine EvOps.call rfl (by simp) (by simp <;> exact rfl) (by simp <;> exact rfl) awake2_ok ?_
    apply EvOps.run
    · intro call; simp [hl]; exact rfl
    exact Ev.ret ⟨by simp, by simp [Try.f9, hl]⟩
  refine Ev.seq (Ev.seq (Ev.region ?_))
  refine EvOps.call rfl (by simp) (by simp <;> exact rfl) (by simp <;> exact rfl) awake2_ok ?_
  by_cases gs : 300 < s.length
  · apply EvOps.keep (h' := []) (d' := false) (fun fr => fr.length = 52 ∧ slotAt fr 17 = some (.bool true))
    · intro call; simp [hl, h0, show (300 : Int) < s.length by omega]; exact rfl
    · exact ⟨by simp [hl], by simp [hl]⟩
    rintro fr ⟨hl, h24⟩
    refine (bad fr hl h24).mono ?_
    intro x s hs; cases x <;> simp only [onNormal] at hs ⊢ <;> first | exact hs | exact hs.elim
  by_cases gt : 300 < t.length
  · apply EvOps.keep (h' := []) (d' := false) (fun fr => fr.length = 52 ∧ slotAt fr 17 = some (.bool true))
    · intro call; simp [hl, h0, h1, show ¬ (300 : Int) < s.length by omega, show (300 : Int) < t.length by omega]; exact rfl
    · exact ⟨by simp [hl], by simp [hl]⟩
    rintro fr ⟨hl, h24⟩
    refine (bad fr hl h24).mono ?_
    intro x s hs; cases x <;> simp only [onNormal] at hs ⊢ <;> first | exact hs | exact hs.elim
  apply EvOps.keep (h' := []) (d' := false) (fun fr => fr.length = 52 ∧ slotAt fr 0 = some (.str s) ∧ slotAt fr 1 = some (.str t) ∧ slotAt fr 17 = some (.bool false))
  · intro call; simp [hl, h0, h1, show ¬ (300 : Int) < s.length by omega, show ¬ (300 : Int) < t.length by omega]; exact rfl
  · exact ⟨by simp [hl], by simp [h0], by simp [h1], by simp [hl]⟩
  clear hl h0 h1 fr bad
  rintro fr ⟨hl, h0, h1, h17⟩
  refine Ev.cond false (by simp [h17]) (fun h => by simp at h) (fun _ => Ev.skip ?_)
  have hql := quote_len s
  have pq : Parses (quoteS s) (lits s) := by simpa using parses_quote [] [] .nil s
  have m1 : Ret cfg 37 [.str (quoteS s), .str t] (.bool (s == t)) := match_ok _ _ _ pq (by omega) (by omega) _ (by rw [beq_iff_eq]; exact (fit_lits_eq _ s t).symm)
  have m2 := match_yes (quoteS s) s _ pq (by omega) (by omega) ((fit_lits_eq _ s s).2 rfl)
  have hpl := plain_ok s (by omega)
  refine Ev.seq (Ev.region (EvOps.take 1 ?_))
  apply EvOps.run
  · intro call; simp [hl, h0]; exact rfl
  refine EvOps.call rfl (by simp [hl]) (by simp [hl] <;> exact rfl) (by simp <;> exact rfl) (quoted_ok s (by omega)) ?_
  apply EvOps.keep (h' := []) (d' := false) (fun fr => fr.length = 52 ∧ slotAt fr 0 = some (.str s) ∧ slotAt fr 1 = some (.str t) ∧ slotAt fr 5 = some (.str (quoteS s)))
  · intro call; simp [hl]; exact rfl
  · exact ⟨by simp [hl], by simp [h0], by simp [h1], by simp [hl]⟩
  clear hl h0 h1 h17 fr
  rintro fr ⟨hl, h0, h1, h5⟩
  obtain ⟨b, hb⟩ : ∃ b, b = (s == t) := ⟨_, rfl⟩
  rw [← hb] at m1
  refine Ev.seq (Ev.region (EvOps.take 2 ?_))
  apply EvOps.run
  · intro call; simp [hl, h1, h5]; exact rfl
  refine EvOps.call rfl (by simp [hl]) (by simp [hl] <;> exact rfl) (by simp <;> exact ⟨rfl, rfl⟩) m1 (EvOps.take 7 ?_)
  apply EvOps.keep (h' := []) (d' := false) (fun fr => fr.length = 52 ∧ slotAt fr 0 = some (.str s) ∧ slotAt fr 1 = some (.str t) ∧ slotAt fr 5 = some (.str (quoteS s)) ∧ slotAt fr 28 = some (.bool true) ∧ slotAt fr 29 = some (.str (quoteS s)) ∧ slotAt fr 30 = some (.str s))
  · intro call; simp [hl, h0, h1, h5, ← hb, eqA]; exact rfl
  · exact ⟨by simp [hl], by simp [h0], by simp [h1], by simp [h5], by simp [hl], by simp [hl], by simp [hl]⟩
  clear hl h0 h1 h5 fr
  rintro fr ⟨hl, h0, h1, h5, h28, h29, h30⟩
  refine EvOps.call rfl (by simp [hl, h28]) (by simp [hl, h29, h30] <;> exact rfl) (by simp <;> exact ⟨rfl, rfl⟩) m2 (EvOps.take 3 ?_)
  apply EvOps.run
  · intro call; simp [hl, h0, h28]; exact rfl
  refine EvOps.call rfl (by simp [hl]) (by simp [hl] <;> exact rfl) (by simp <;> exact rfl) hpl ?_
  cases hpv : s.all (fun b => !isSign b) with
  | false =>
    apply EvOps.run
    · intro call; simp [hl]; exact rfl
    exact Ev.ret ⟨by simp, by simp [Try.f9, hl]⟩
  | true =>
    have hqs := quote_plain s hpv
    have m3 : Ret cfg 37 [.str s, .str t] (.bool b) := match_ok _ _ _ (parses_plain s hpv) (by omega) (by omega) _ (by rw [hb, beq_iff_eq]; exact (fit_lits_eq _ s t).symm)
    rw [hqs] at h5
    refine EvOps.take 8 ?_
    apply EvOps.run
    · intro call; simp [hl, h0, h1, h5]; exact rfl
    refine EvOps.call rfl (by simp [hl]) (by simp [hl] <;> exact rfl) (by simp <;> exact ⟨rfl, rfl⟩) m3 ?_
    apply EvOps.run
    · intro call; simp [hl, h0, h1, ← hb, eqA]; exact rfl
    exact Ev.ret ⟨by simp, by simp [Try.f9, hl]⟩
end Go.Proofs.Ytnifldbmflkmpaa
