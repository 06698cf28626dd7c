/-
  pentimentoref04.Right: the run.
-/
import Derived.Test.YtnifldbmflkmpaaGh
import Derived.Test.YtnifldbmflkmpaaEvT
namespace Go.Proofs.Ytnifldbmflkmpaa
open Go Ev
set_option linter.unusedVariables false
set_option linter.unusedSimpArgs false
set_option maxRecDepth 10000
set_option maxHeartbeats 8000000 in
/-- The head of a reply, as region 1 looks at it. -/
theorem head_run (k : Int) (s : S) (n : Int) (l : List R) (d : Nat) (fr : List AV) (hl : fr.length = 103) (h2 : slotAt fr 2 = some (.ptr 0 0)) (h1 : slotAt fr 1 = some (.int .i64 (d : Nat))) (Q : Ex → St → Prop)
    (hq : ∀ fr : List AV, fr.length = 103 → slotAt fr 2 = some (.ptr 0 0) → slotAt fr 1 = some (.int .i64 (d : Nat)) → slotAt fr 55 = some (.bool (badHead k s n l)) → Q .normal ⟨fr, [.cells [.int .i64 k, .str s, .int .i64 n, rs l]], false⟩) :
    Ev cfg 0 ((Try.f26.body.get rfl) |> fun c => match c with | .seq _ (.seq (.seq r _) _) => r | _ => .skip) ⟨fr, [.cells [.int .i64 k, .str s, .int .i64 n, rs l]], false⟩ Q := by
  refine Ev.region ?_
  obtain ⟨c1, hc1⟩ : ∃ c, c = (decide (k < 0) || decide (5 < k) || (k != 5 && decide (0 < l.length))) := ⟨_, rfl⟩
  refine EvOps.mid 19 (fun st => ∃ fr : List AV, st = ⟨fr, [.cells [.int .i64 k, .str s, .int .i64 n, rs l]], false⟩ ∧ fr.length = 103 ∧ slotAt fr 2 = some (.ptr 0 0) ∧ slotAt fr 1 = some (.int .i64 (d : Nat)) ∧ slotAt fr 25 = some (.bool c1)) ?_ ?_
  · skip
    by_cases k0 : k < 0
    · apply EvOps.run
      · intro call; simp [hl, h2, k0]; exact rfl
      exact ⟨_, rfl, by simp [hl], by simp [h2], by simp [h1], by simp [hl, hc1, k0]⟩
    by_cases k5 : 5 < k
    · apply EvOps.run
      · intro call; simp [hl, h2, k0, k5]; exact rfl
      exact ⟨_, rfl, by simp [hl], by simp [h2], by simp [h1], by simp [hl, hc1, k0, k5]⟩
    cases e5 : (k != 5) with
    | false =>
      apply EvOps.run
      · intro call; simp [hl, h2, k0, k5, e5]; exact rfl
      exact ⟨_, rfl, by simp [hl], by simp [h2], by simp [h1], by simp [hl, hc1, k0, k5, e5]⟩
    | true =>
      cases l with
      | nil =>
        apply EvOps.run
        · intro call; simp [hl, h2, k0, k5, e5, rs, aRs]; exact rfl
        exact ⟨_, rfl, by simp [hl], by simp [h2, rs, aRs], by simp [h1], by simp [hl, hc1, k0, k5, e5]⟩
      | cons r l =>
        apply EvOps.run
        · intro call; simp [hl, h2, k0, k5, e5, rs, aRs]; exact rfl
        exact ⟨_, rfl, by simp [hl], by simp [h2, rs, aRs], by simp [h1], by simp [hl, hc1, k0, k5, e5]⟩
  clear hl h2 h1 fr
  rintro _ ⟨fr, rfl, hl, h2, h1, h25⟩
  obtain ⟨c2, hc2⟩ : ∃ c, c = (c1 || (k != 2 && n != 0)) := ⟨_, rfl⟩
  refine EvOps.mid 10 (fun st => ∃ fr : List AV, st = ⟨fr, [.cells [.int .i64 k, .str s, .int .i64 n, rs l]], false⟩ ∧ fr.length = 103 ∧ slotAt fr 2 = some (.ptr 0 0) ∧ slotAt fr 1 = some (.int .i64 (d : Nat)) ∧ slotAt fr 35 = some (.bool c2)) ?_ ?_
  · skip
    cases c1 with
    | true =>
      apply EvOps.run
      · intro call; simp [hl, h2, h25]; exact rfl
      exact ⟨_, rfl, by simp [hl], by simp [h2], by simp [h1], by simp [hl, hc2]⟩
    | false =>
      cases e1 : (k != 2) with
      | false =>
        apply EvOps.run
        · intro call; simp [hl, h2, h25, e1]; exact rfl
        exact ⟨_, rfl, by simp [hl], by simp [h2], by simp [h1], by simp [hl, hc2, e1]⟩
      | true =>
        apply EvOps.run
        · intro call; simp [hl, h2, h25, e1]; exact rfl
        exact ⟨_, rfl, by simp [hl], by simp [h2], by simp [h1], by simp [hl, hc2, e1]⟩
  clear hl h2 h1 fr h25
  rintro _ ⟨fr, rfl, hl, h2, h1, h35⟩
  have hbad : badHead k s n l = (c2 || (k != 0 && k != 1 && k != 3 && s != [])) := by rw [hc2, hc1, badHead]
  rw [hbad] at hq
  cases c2 with
  | true =>
    apply EvOps.run
    · intro call; simp [hl, h2, h35]; exact rfl
    exact hq _ (by simp [hl]) (by simp [h2]) (by simp [h1]) (by simp [hl])
  | false =>
    cases e1 : (k != 0) with
    | false =>
      apply EvOps.run
      · intro call; simp [hl, h2, h35, e1]; exact rfl
      exact hq _ (by simp [hl]) (by simp [h2]) (by simp [h1]) (by simp [hl, e1])
    | true =>
      cases e2 : (k != 1) with
      | false =>
        apply EvOps.run
        · intro call; simp [hl, h2, h35, e1, e2]; exact rfl
        exact hq _ (by simp [hl]) (by simp [h2]) (by simp [h1]) (by simp [hl, e1, e2])
      | true =>
        cases e3 : (k != 3) with
        | false =>
          apply EvOps.run
          · intro call; simp [hl, h2, h35, e1, e2, e3]; exact rfl
          exact hq _ (by simp [hl]) (by simp [h2]) (by simp [h1]) (by simp [hl, e1, e2, e3])
        | true =>
          apply EvOps.run
          · intro call; simp [hl, h2, h35, e1, e2, e3]; exact rfl
          exact hq _ (by simp [hl]) (by simp [h2]) (by simp [h1]) (by simp [hl, e1, e2, e3]; cases s <;> rfl)
end Go.Proofs.Ytnifldbmflkmpaa
