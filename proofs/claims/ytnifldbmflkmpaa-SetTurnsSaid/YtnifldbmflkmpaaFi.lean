/-
  The functions of the set laws, as the evaluator runs them.
-/
import Derived.Test.YtnifldbmflkmpaaFh
namespace Go.Proofs.Ytnifldbmflkmpaa
open Go Ev
set_option linter.unusedVariables false
set_option linter.unusedSimpArgs false
set_option maxRecDepth 10000
theorem awake_ok : Ret cfg 14 [] (.bool true) := by
  have he : evalF cfg 100 14 [] [] = some (.bool true, [], false) := by kernel_rfl
  exact Ret.of_eval rfl rfl (by simp) (by simp) he (by simp)
theorem long_ok (s : S) : Ret cfg 61 [.str s] (.bool (decide (4096 < s.length))) := by
  refine Ret.of_body rfl rfl Try.func61 rfl (by simp) (by simp) ?_
  refine Ev.seq (Ev.region ?_)
  apply EvOps.run
  · intro call; simp [Try.f61]; exact rfl
  refine Ev.seq (Ev.region ?_)
  apply EvOps.run
  · intro call; simp; exact rfl
  exact Ev.ret ⟨.bool (decide (4096 < s.length)), by simp; omega, by simp⟩
def Sorted (s : List S) : Prop := s.Pairwise (fun a b => Op.bytesLess a b = true)
theorem right_ok (s : List S) (hs : Sorted s) (hx : ∀ x ∈ s, x.length ≤ 4096) (hb : s.length ≤ 512) : Ret cfg 23 [strs s] (.bool true) := by
  refine Ret.of_body rfl rfl Try.func23 rfl (by simp) (by simp) ?_
  refine Ev.seq (Ev.region ?_)
  apply EvOps.run
  · intro call; simp [Try.f23]; exact rfl
  refine Ev.seq (Ev.seq (Ev.region ?_))
  apply EvOps.run
  · intro call; simp [strs]; exact rfl
  refine Ev.block ?_
  refine Ev.loop (fun m st => ∃ fr i, st = ⟨fr, [], false⟩ ∧ fr.length = 31 ∧ slotAt fr 0 = some (strs s) ∧ slotAt fr 5 = some (strs s) ∧ slotAt fr 6 = some (.int .i64 (s.length : Nat)) ∧ slotAt fr 7 = some (.int .i64 (i : Nat)) ∧ i ≤ s.length ∧ m = s.length - i) ?_ s.length _ ?_
  · rintro m st ⟨fr, i, rfl, hl, h0, h5, h6, h7, hi, rfl⟩
    refine Ev.seq (Ev.region ?_)
    apply EvOps.run
    · intro call; simp [hl, h6, h7]; exact rfl
    refine Ev.seq (Ev.cond (decide (i < s.length)) (by simp [hl]) (fun hc => Ev.skip ?_) (fun hc => Ev.exit ?_))
    · simp only [decide_eq_true_eq] at hc
      refine Ev.seq (Ev.block (Ev.seq (Ev.region ?_)))
      apply EvOps.run
      · intro call; simp [hl, h5, h7, strs, hc]; exact rfl
      have hlong : decide (4096 < (s[i]).length) = false := by have := hx _ (List.getElem_mem hc); simp; omega
      refine Ev.seq (Ev.region (EvOps.take 1 ?_))
      apply EvOps.run
      · intro call; simp [hl]; exact rfl
      refine EvOps.call rfl (by simp [hl]) (by simp [hl]; exact rfl) (by simp <;> exact rfl) (hlong ▸ long_ok s[i]) ?_
      have nxt : ∀ fr' : List AV, fr'.length = 31 → slotAt fr' 0 = some (strs s) → slotAt fr' 5 = some (strs s) → slotAt fr' 6 = some (.int .i64 (s.length : Nat)) → slotAt fr' 7 = some (.int .i64 (i : Nat)) →
          Ev cfg 0 ((Try.f23.body.get rfl) |> fun c => match c with | .seq _ (.seq (.seq _ (.block _ (.loop (.seq _ (.seq _ (.seq _ d)))))) _) => d | _ => .skip) ⟨fr', [], false⟩
            (onNormal (fun s' => ∃ m', m' < s.length - i ∧ ∃ fr i, s' = ⟨fr, [], false⟩ ∧ fr.length = 31 ∧ slotAt fr 0 = some (strs s) ∧ slotAt fr 5 = some (strs s) ∧ slotAt fr 6 = some (.int .i64 (s.length : Nat)) ∧ slotAt fr 7 = some (.int .i64 (i : Nat)) ∧ i ≤ s.length ∧ m' = s.length - i) (fun _ _ => False)) := by
        intro fr' hl' g0 g5 g6 g7
        refine Ev.region ?_
        apply EvOps.run
        · intro call; simp [hl', g7, wrap_succ i (by omega)]; exact rfl
        exact ⟨s.length - (i + 1), by omega, _, i + 1, rfl, by simp [hl'], by simp [g0], by simp [g5], by simp [g6], by simp [hl'], by omega, rfl⟩
      cases i with
      | zero =>
        apply EvOps.run
        · intro call; simp [hl]; exact rfl
        refine Ev.cond false (by simp [hl]) (fun h => by simp at h) (fun _ => Ev.skip ?_)
        refine (nxt _ (by simp [hl]) (by simp [h0]) (by simp [h5]) (by simp [h6]) (by simp [h7])).mono ?_
        intro x s hs; cases x <;> simp only [onNormal] at hs <;> exact hs
      | succ j =>
        have hlt : Op.bytesLess s[j] s[j + 1] = true := (List.pairwise_iff_getElem.1 hs) j (j + 1) (by omega) hc (by omega)
        apply EvOps.run
        · intro call; simp [hl, h0, strs, wrap_int (j : Int) (by omega) (by omega), show j < s.length by omega, hlt]; exact rfl
        refine Ev.cond false (by simp [hl]) (fun h => by simp at h) (fun _ => Ev.skip ?_)
        refine (nxt _ (by simp [hl]) (by simp [h0]) (by simp [h5]) (by simp [h6]) (by simp [h7])).mono ?_
        intro x s hs; cases x <;> simp only [onNormal] at hs <;> exact hs
    · refine Ev.seq (Ev.region ?_)
      apply EvOps.run
      · intro call; simp [hl, h0, strs]; exact rfl
      exact Ev.ret ⟨.bool true, by simp [Try.f23, hl]; omega, by simp⟩
  · exact ⟨_, 0, rfl, by simp, by simp [strs], by simp [strs], by simp, by simp, by omega, rfl⟩
end Go.Proofs.Ytnifldbmflkmpaa
