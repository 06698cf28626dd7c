/-
  The laws GlobStars and GlobQuotes, run.
-/
import Derived.Test.YtnifldbmflkmpaaPd
namespace Go.Proofs.Ytnifldbmflkmpaa
open Go Ev
set_option linter.unusedVariables false
set_option linter.unusedSimpArgs false
set_option maxRecDepth 10000
theorem quoted_ok (s : S) (hs : s.length ≤ 500) : Ret cfg 38 [.str s] (.str (quoteS s)) :=
  Ret.of_prim (p := quoteA) rfl (by simp) (by simp [quoteA]; omega) (by simp)
theorem awake2_ok : Ret cfg 36 [] (.bool true) :=
  have he : evalF cfg 60 36 [] [] = some (.bool true, [], false) := by kernel_rfl
  Ret.of_eval rfl rfl (by simp) (by simp) he (by simp)
/-- A match that is known. -/
theorem match_yes (p s : S) (l : List Pt) (hps : Parses p l) (hp : p.length ≤ 2000) (hs : s.length ≤ 2000) (h : Fit l s) : Ret cfg 37 [.str p, .str s] (.bool true) :=
  match_ok p s l hps (by omega) (by omega) true (by simp [h])
theorem match_no (p s : S) (l : List Pt) (hps : Parses p l) (hp : p.length ≤ 2000) (hs : s.length ≤ 2000) (h : ¬ Fit l s) : Ret cfg 37 [.str p, .str s] (.bool false) :=
  match_ok p s l hps (by omega) (by omega) false (by simp [h])
theorem parses_star (r : S) (l : List Pt) (h : Parses r l) : Parses (42 :: r) (.any :: l) := Parses.cons (p := .any) rfl (by simpa [Pt.len] using h)
theorem parses_q (r : S) (l : List Pt) (h : Parses r l) : Parses (63 :: r) (.q :: l) := Parses.cons (p := .q) rfl (by simpa [Pt.len] using h)
theorem fit_all (l : List Pt) (s : S) (h : Fit l []) : Fit (.any :: l) s := by
  rw [fit_any]; exact ⟨s.length, Nat.le_refl _, by rw [List.drop_length]; exact h⟩
theorem fit_skip (l : List Pt) (s t : S) (h : Fit l t) : Fit (.any :: l) (s ++ t) := by
  rw [fit_any]; exact ⟨s.length, by simp, by simpa using h⟩
set_option maxHeartbeats 4000000 in
theorem globStars_ev (p s t : S) : ∃ k h d, evalF cfg k 8 [.str p, .str s, .str t] [] = some (.bool true, h, d) := by
  refine law_of_body (by decide) Try.func8 rfl ?_
  refine Ev.seq (Ev.region ?_)
  apply EvOps.keep (h' := []) (d' := false) (fun fr => fr.length = 71 ∧ slotAt fr 0 = some (.str p) ∧ slotAt fr 1 = some (.str s) ∧ slotAt fr 2 = some (.str t))
  · intro call; simp [Try.f8]; exact rfl
  · exact ⟨by simp, by simp, by simp, by simp⟩
  rintro fr ⟨hl, h0, h1, h2⟩
  have bad : ∀ fr : List AV, fr.length = 71 → slotAt fr 24 = some (.bool true) → Ev cfg 0 ((Try.f8.body.get rfl) |> fun c => match c with | .seq _ (.seq (.seq _ c) _) => c | _ => .skip) ⟨fr, [], false⟩ (onNormal (fun s => False) (fun x st => (∀ i, x ≠ .exit i) ∧ resultsA cfg.P Try.f8.results.toList st.fr st.h = some (.bool true))) := by
    intro fr hl h24
    refine Ev.cond true (by simp [h24]) (fun _ => ?_) (fun h => by simp at h)
    refine Ev.seq (Ev.region ?_)
    refine EvOps.call rfl (by simp) (by simp <;> exact rfl) (by simp <;> exact rfl) awake2_ok ?_
    apply EvOps.run
    · intro call; simp [hl]; exact rfl
    exact Ev.ret ⟨by simp, by simp [Try.f8, hl]⟩
  refine Ev.seq (Ev.seq (Ev.region ?_))
  refine EvOps.call rfl (by simp) (by simp <;> exact rfl) (by simp <;> exact rfl) awake2_ok ?_
  by_cases gp : 200 < p.length
  · apply EvOps.keep (h' := []) (d' := false) (fun fr => fr.length = 71 ∧ slotAt fr 24 = some (.bool true))
    · intro call; simp [hl, h0, show (200 : Int) < p.length by omega]; exact rfl
    · exact ⟨by simp [hl], by simp [hl]⟩
    rintro fr ⟨hl, h24⟩
    refine (bad fr hl h24).mono ?_
    intro x s hs; cases x <;> simp only [onNormal] at hs ⊢ <;> first | exact hs | exact hs.elim
  by_cases gs : 200 < s.length
  · apply EvOps.keep (h' := []) (d' := false) (fun fr => fr.length = 71 ∧ slotAt fr 24 = some (.bool true))
    · intro call; simp [hl, h0, h1, show ¬ (200 : Int) < p.length by omega, show (200 : Int) < s.length by omega]; exact rfl
    · exact ⟨by simp [hl], by simp [hl]⟩
    rintro fr ⟨hl, h24⟩
    refine (bad fr hl h24).mono ?_
    intro x s hs; cases x <;> simp only [onNormal] at hs ⊢ <;> first | exact hs | exact hs.elim
  by_cases gt : 200 < t.length
  · apply EvOps.keep (h' := []) (d' := false) (fun fr => fr.length = 71 ∧ slotAt fr 24 = some (.bool true))
    · intro call; simp [hl, h0, h1, h2, show ¬ (200 : Int) < p.length by omega, show ¬ (200 : Int) < s.length by omega, show (200 : Int) < t.length by omega]; exact rfl
    · exact ⟨by simp [hl], by simp [hl]⟩
    rintro fr ⟨hl, h24⟩
    refine (bad fr hl h24).mono ?_
    intro x s hs; cases x <;> simp only [onNormal] at hs ⊢ <;> first | exact hs | exact hs.elim
  apply EvOps.keep (h' := []) (d' := false) (fun fr => fr.length = 71 ∧ slotAt fr 0 = some (.str p) ∧ slotAt fr 1 = some (.str s) ∧ slotAt fr 2 = some (.str t) ∧ slotAt fr 24 = some (.bool false))
  · intro call; simp [hl, h0, h1, h2, show ¬ (200 : Int) < p.length by omega, show ¬ (200 : Int) < s.length by omega, show ¬ (200 : Int) < t.length by omega]; exact rfl
  · exact ⟨by simp [hl], by simp [h0], by simp [h1], by simp [h2], by simp [hl]⟩
  clear hl h0 h1 h2 fr bad
  rintro fr ⟨hl, h0, h1, h2, h24⟩
  refine Ev.cond false (by simp [h24]) (fun h => by simp at h) (fun _ => Ev.skip ?_)
  have hql := quote_len p
  have m1 := match_yes [42] s [.any] (parses_star _ _ .nil) (by simp) (by omega) (fit_all _ _ (by simp [Fit]))
  have m2 := match_yes [42, 42] t [.any, .any] (parses_star _ _ (parses_star _ _ .nil)) (by simp) (by omega) (fit_all _ _ (fit_all _ _ (by simp [Fit])))
  have m3 := match_no [63, 42] [] [.q, .any] (parses_q _ _ (parses_star _ _ .nil)) (by simp) (by simp) (by simp [Fit])
  have pq : ∀ r l, Parses r l → Parses (quoteS p ++ r) (lits p ++ l) := fun r l h => parses_quote r l h p
  have star1 : Parses [42] [.any] := parses_star _ _ .nil
  have m4 := match_yes (42 :: (quoteS p ++ [42])) (s ++ p ++ t) (.any :: (lits p ++ [.any])) (parses_star _ _ (pq _ _ star1)) (by simp; omega) (by simp; omega)
    (by rw [List.append_assoc]; exact fit_skip _ _ _ ((fit_lits _ _ p t).2 (fit_all _ _ (by simp [Fit]))))
  have m5 := match_yes (quoteS p ++ [42]) (p ++ t) (lits p ++ [.any]) (pq _ _ star1) (by simp; omega) (by simp; omega)
    ((fit_lits _ _ p t).2 (fit_all _ _ (by simp [Fit])))
  have m6 := match_yes (42 :: quoteS p) (s ++ p) (.any :: lits p) (parses_star _ _ (by simpa using pq [] [] .nil)) (by simp; omega) (by simp; omega)
    (fit_skip _ _ _ ((fit_lits_eq _ p p).2 rfl))
  have m7 := match_yes (63 :: quoteS p) (120 :: p) (.q :: lits p) (parses_q _ _ (by simpa using pq [] [] .nil)) (by simp; omega) (by simp; omega)
    (by rw [fit_one _ rfl]; exact ⟨120, p, rfl, rfl, (fit_lits_eq _ p p).2 rfl⟩)
  refine Ev.seq (Ev.seq (Ev.region (EvOps.take 1 ?_)))
  apply EvOps.run
  · intro call; simp [hl, h1]; exact rfl
  refine EvOps.call rfl (by simp [hl]) (by simp [hl] <;> exact rfl) (by simp <;> exact rfl) m1 (EvOps.take 3 ?_)
  apply EvOps.run
  · intro call; simp [hl, h2]; exact rfl
  refine EvOps.call rfl (by simp [hl]) (by simp [hl] <;> exact rfl) (by simp <;> exact rfl) m2 (EvOps.take 3 ?_)
  apply EvOps.run
  · intro call; simp [hl]; exact rfl
  refine EvOps.call rfl (by simp [hl]) (by simp [hl] <;> exact rfl) (by simp <;> exact rfl) m3 ?_
  apply EvOps.keep (h' := []) (d' := false) (fun fr => fr.length = 71 ∧ slotAt fr 0 = some (.str p) ∧ slotAt fr 1 = some (.str s) ∧ slotAt fr 2 = some (.str t) ∧ slotAt fr 36 = some (.bool false))
  · intro call; simp [hl]; exact rfl
  · exact ⟨by simp [hl], by simp [h0], by simp [h1], by simp [h2], by simp [hl]⟩
  clear hl h0 h1 h2 h24 fr
  rintro fr ⟨hl, h0, h1, h2, h36⟩
  refine Ev.cond false (by simp [h36]) (fun h => by simp at h) (fun _ => Ev.skip ?_)
  refine Ev.seq (Ev.region (EvOps.take 1 ?_))
  apply EvOps.run
  · intro call; simp [hl, h0]; exact rfl
  refine EvOps.call rfl (by simp [hl]) (by simp [hl] <;> exact rfl) (by simp <;> exact rfl) (quoted_ok p (by omega)) ?_
  apply EvOps.keep (h' := []) (d' := false) (fun fr => fr.length = 71 ∧ slotAt fr 0 = some (.str p) ∧ slotAt fr 1 = some (.str s) ∧ slotAt fr 2 = some (.str t) ∧ slotAt fr 7 = some (.str (quoteS p)))
  · intro call; simp [hl]; exact rfl
  · exact ⟨by simp [hl], by simp [h0], by simp [h1], by simp [h2], by simp [hl]⟩
  clear hl h0 h1 h2 h36 fr
  rintro fr ⟨hl, h0, h1, h2, h7⟩
  have b1 : 1 + (quoteS p).length ≤ 140737488355328 := by omega
  have b2 : (quoteS p).length + 1 ≤ 140737488355328 := by omega
  have b3 : (quoteS p).length + 1 + 1 ≤ 140737488355328 := by omega
  have b4 : s.length + p.length ≤ 140737488355328 := by omega
  have b5 : s.length + p.length + t.length ≤ 140737488355328 := by omega
  have b6 : p.length + t.length ≤ 140737488355328 := by omega
  have b7 : 1 + p.length ≤ 140737488355328 := by omega
  have b8 : s.length + (p.length + t.length) ≤ 140737488355328 := by omega
  refine Ev.seq (Ev.region (EvOps.take 8 ?_))
  apply EvOps.run
  · intro call; simp [hl, h0, h1, h2, h7, b1, b2, b3, b4, b5, b8]; exact rfl
  refine EvOps.call rfl (by simp [hl]) (by simp [hl] <;> exact rfl) (by simp <;> exact ⟨rfl, rfl⟩) m4 (EvOps.take 6 ?_)
  apply EvOps.run
  · intro call; simp [hl, h0, h2, h7, b2, b6]; exact rfl
  refine EvOps.call rfl (by simp [hl]) (by simp [hl] <;> exact rfl) (by simp <;> exact ⟨rfl, rfl⟩) m5 (EvOps.take 7 ?_)
  apply EvOps.run
  · intro call; simp [hl, h0, h1, h7, b1, b4]; exact rfl
  refine EvOps.call rfl (by simp [hl]) (by simp [hl] <;> exact rfl) (by simp <;> exact ⟨rfl, rfl⟩) m6 (EvOps.take 6 ?_)
  apply EvOps.run
  · intro call; simp [hl, h0, h7, b1, b7]; exact rfl
  refine EvOps.call rfl (by simp [hl]) (by simp [hl] <;> exact rfl) (by simp <;> exact ⟨rfl, rfl⟩) m7 ?_
  apply EvOps.run
  · intro call; simp [hl]; exact rfl
  exact Ev.ret ⟨by simp, by simp [Try.f8, hl]⟩
end Go.Proofs.Ytnifldbmflkmpaa
