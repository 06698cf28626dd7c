/-
  The functions of the set laws, as the evaluator runs them.
-/
import Derived.Test.YtnifldbmflkmpaaFg
namespace Go.Proofs.Ytnifldbmflkmpaa
open Go Ev
set_option linter.unusedVariables false
set_option linter.unusedSimpArgs false
set_option maxRecDepth 10000
def interS : List (List S) → List S
  | [] => []
  | s :: ll => foldM andB s ll
theorem inter_ok (ll : List (List S)) (hll : ll.length ≤ 1024) (hc : ∀ l ∈ ll, l.length ≤ 1048576) : Ret cfg 19 [strss ll] (strs (interS ll)) := by
  refine Ret.of_body rfl rfl Try.func19 rfl (by simp) (by simp) ?_
  refine Ev.seq (Ev.region ?_)
  apply EvOps.run
  · intro call; simp [Try.f19]; exact rfl
  cases ll with
  | nil =>
    refine Ev.seq (Ev.seq (Ev.region ?_))
    apply EvOps.run
    · intro call; simp [strss]; exact rfl
    refine Ev.cond true (by simp) (fun _ => ?_) (fun h => by simp at h)
    refine Ev.seq (Ev.region ?_)
    apply EvOps.run
    · intro call; simp; exact rfl
    exact Ev.ret ⟨_, by simp [Try.f19]; rfl, by simp [interS, strs]⟩
  | cons s ll =>
    refine Ev.seq (Ev.seq (Ev.region ?_))
    apply EvOps.run
    · intro call; simp [strss]; exact rfl
    refine Ev.cond false (by simp) (fun h => by simp at h) (fun _ => Ev.skip ?_)
    have hs := hc s (by simp)
    refine Ev.seq (Ev.region (EvOps.take 3 ?_))
    apply EvOps.run
    · intro call; simp [strss, strs]; exact rfl
    refine EvOps.call rfl (by simp) (by simp; exact rfl) (by simp <;> exact rfl) (clone_ok s (by omega)) ?_
    apply EvOps.run
    · intro call; simp; exact rfl
    refine Ev.seq (Ev.seq (Ev.region ?_))
    apply EvOps.run
    · intro call; simp [strss, strs, sliceA]; exact rfl
    refine Ev.block ?_
    refine Ev.loop (fun m st => ∃ fr i, st = ⟨fr, [], false⟩ ∧ fr.length = 25 ∧ slotAt fr 14 = some (strss ll) ∧ slotAt fr 15 = some (.int .i64 (ll.length : Nat)) ∧ slotAt fr 3 = some (strs (foldM andB s (ll.take i))) ∧ slotAt fr 16 = some (.int .i64 (i : Nat)) ∧ i ≤ ll.length ∧ m = ll.length - i) ?_ ll.length _ ?_
    · rintro m st ⟨fr, i, rfl, hl, h7, h8, h4, h9, hi, rfl⟩
      refine Ev.seq (Ev.region ?_)
      apply EvOps.run
      · intro call; simp [hl, h8, h9]; exact rfl
      refine Ev.seq (Ev.cond (decide (i < ll.length)) (by simp [hl]) (fun hc => Ev.skip ?_) (fun hc => Ev.exit ?_))
      · simp only [decide_eq_true_eq] at hc
        refine Ev.seq (Ev.block (Ev.seq (Ev.region ?_)))
        apply EvOps.run
        · intro call; simp [hl, h7, h8, h9, strs, strss, hc]; exact rfl
        refine Ev.region (EvOps.take 2 ?_)
        apply EvOps.run
        · intro call; simp [hl, h4]; exact rfl
        refine EvOps.call rfl (by simp [hl]) (by simp [hl]; exact rfl) (by simp [strs] <;> exact ⟨rfl, rfl⟩) (merge_ok 59 andB (fun a b => both_ok a b) (foldM andB s (ll.take i)) ll[i] (foldM_take_bound _ _ _ _ (by simp at hll; omega) (fun l hl => (show ∀ l ∈ s :: ll, l.length ≤ 1048576 by assumption) l (List.mem_cons_of_mem _ hl)) hs _ (List.getElem_mem hc))) ?_
        apply EvOps.run
        · intro call; simp [hl]; exact rfl
        refine Ev.region ?_
        apply EvOps.run
        · intro call; simp [hl, h9, wrap_succ i (by simp at hll; omega)]; exact rfl
        refine ⟨ll.length - (i + 1), by omega, _, i + 1, rfl, by simp [hl], by simp [h7], by simp [h8], ?_, by simp [hl], by omega, rfl⟩
        simp only [foldM, foldl_take_succ _ _ _ _ hc]
        simp [hl]
      · simp only [decide_eq_false_iff_not] at hc
        refine Ev.seq (Ev.region ?_)
        apply EvOps.run
        · intro call; simp [hl, h4]; exact rfl
        refine Ev.ret ⟨_, by simp [Try.f19, hl]; rfl, ?_⟩
        rw [strip_strs, List.take_of_length_le (by omega)]
        rfl
    · exact ⟨_, 0, rfl, by simp, by simp [strss], by simp, by simp [foldM, strs], by simp, by omega, rfl⟩

def refInterS : List (List S) → List S
  | [] => []
  | s :: ll => s.filter (fun x => ll.all (fun l => hasS l x))
theorem refInter_ok (ll : List (List S)) (hll : ll.length ≤ 1024) (hc : ∀ l ∈ ll, l.length ≤ 1048576) : Ret cfg 20 [strss ll] (strs (refInterS ll)) := by
  refine Ret.of_body rfl rfl Try.func20 rfl (by simp) (by simp) ?_
  refine Ev.seq (Ev.region ?_)
  apply EvOps.run
  · intro call; simp [Try.f20]; exact rfl
  cases ll with
  | nil =>
    refine Ev.seq (Ev.seq (Ev.region ?_))
    apply EvOps.run
    · intro call; simp [strss]; exact rfl
    refine Ev.cond true (by simp) (fun _ => ?_) (fun h => by simp at h)
    refine Ev.seq (Ev.region ?_)
    apply EvOps.run
    · intro call; simp; exact rfl
    exact Ev.ret ⟨_, by simp [Try.f20]; rfl, by simp [refInterS, strs]⟩
  | cons s ll =>
    refine Ev.seq (Ev.seq (Ev.region ?_))
    apply EvOps.run
    · intro call; simp [strss]; exact rfl
    refine Ev.cond false (by simp) (fun h => by simp at h) (fun _ => Ev.skip ?_)
    have hs := hc s (by simp)
    refine Ev.seq (Ev.region ?_)
    apply EvOps.run
    · intro call; simp; exact rfl
    refine Ev.seq (Ev.seq (Ev.region ?_))
    apply EvOps.run
    · intro call; simp; exact rfl
    refine Ev.block ?_
    refine Ev.loop (fun m st => ∃ fr h out k, st = ⟨fr, h, false⟩ ∧ fr.length = 49 ∧ slotAt fr 0 = some (strss (s :: ll)) ∧ slotAt fr 3 = some out ∧ Grow 1 h out (((s.take k).filter (fun x => ll.all (fun l => hasS l x))).map .str) ∧ slotAt fr 4 = some (.int .i64 (k : Nat)) ∧ k ≤ s.length ∧ m = s.length - k) ?_ s.length _ ?_
    · rintro m st ⟨fr, h, out, k, rfl, hl, h0, h3, hg, h4, hk, rfl⟩
      refine Ev.seq (Ev.seq (Ev.region ?_))
      apply EvOps.run
      · intro call; simp [hl, h0, h4, strs, strss]; exact rfl
      refine Ev.cond (decide (k < s.length)) (by simp [hl]) (fun hk' => Ev.skip ?_) (fun hk' => Ev.exit ?_)
      · simp only [decide_eq_true_eq] at hk'
        have nxt : ∀ (fr' : List AV) (h' : Heap) (out' : AV), fr'.length = 49 → slotAt fr' 0 = some (strss (s :: ll)) → slotAt fr' 3 = some out' → slotAt fr' 4 = some (.int .i64 (k : Nat)) → Grow 1 h' out' (((s.take (k + 1)).filter (fun x => ll.all (fun l => hasS l x))).map .str) →
            Ev cfg 0 ((Try.f20.body.get rfl) |> fun c => match c with | .seq _ (.seq _ (.seq _ (.seq (.seq _ (.block _ (.loop (.seq _ (.seq _ d))))) _))) => d | _ => .skip) ⟨fr', h', false⟩
              (onNormal (fun s' => ∃ m', m' < s.length - k ∧ ∃ fr h out k, s' = ⟨fr, h, false⟩ ∧ fr.length = 49 ∧ slotAt fr 0 = some (strss (s :: ll)) ∧ slotAt fr 3 = some out ∧ Grow 1 h out (((s.take k).filter (fun x => ll.all (fun l => hasS l x))).map .str) ∧ slotAt fr 4 = some (.int .i64 (k : Nat)) ∧ k ≤ s.length ∧ m' = s.length - k) (fun _ _ => False)) := by
          intro fr' h' out' hl' g0 g3 g4 hg'
          refine Ev.region ?_
          apply EvOps.run
          · intro call; simp [hl', g4, wrap_succ k (by omega)]; exact rfl
          exact ⟨s.length - (k + 1), by omega, _, _, _, k + 1, rfl, by simp [hl'], by simp [g0], by simp [g3], hg', by simp [hl'], by omega, rfl⟩
        refine Ev.seq (Ev.block (Ev.seq (Ev.region ?_)))
        apply EvOps.run
        · intro call; simp [hl]; exact rfl
        refine Ev.seq (Ev.seq (Ev.region ?_))
        apply EvOps.run
        · intro call; simp [hl]; exact rfl
        refine Ev.block ?_
        refine Ev.loop (fun m st => ∃ fr i, st = ⟨fr, h, false⟩ ∧ fr.length = 49 ∧ slotAt fr 0 = some (strss (s :: ll)) ∧ slotAt fr 3 = some out ∧ slotAt fr 4 = some (.int .i64 (k : Nat)) ∧ slotAt fr 5 = some (.bool ((ll.take i).all (fun l => hasS l s[k]))) ∧ slotAt fr 6 = some (.int .i64 ((i + 1 : Nat) : Int)) ∧ i ≤ ll.length ∧ m = ll.length - i) ?_ ll.length _ ?_
        · rintro m st ⟨fr, i, rfl, hl, h0, h3, h4, h5, h6, hi, rfl⟩
          refine Ev.seq (Ev.seq (Ev.region ?_))
          apply EvOps.run
          · intro call; simp [hl, h0, h6, strss]; exact rfl
          refine Ev.cond (decide (i < ll.length)) (by simp [hl] <;> omega) (fun hi' => Ev.skip ?_) (fun hi' => Ev.exit ?_)
          · simp only [decide_eq_true_eq] at hi'
            have hgoal : ∀ (fr' : List AV), fr'.length = 49 → slotAt fr' 0 = some (strss (s :: ll)) → slotAt fr' 3 = some out → slotAt fr' 4 = some (.int .i64 (k : Nat)) → slotAt fr' 5 = some (.bool ((ll.take (i + 1)).all (fun l => hasS l s[k]))) → slotAt fr' 6 = some (.int .i64 ((i + 1 : Nat) : Int)) →
                Ev cfg 0 ((Try.f20.body.get rfl) |> fun c => match c with | .seq _ (.seq _ (.seq _ (.seq (.seq _ (.block _ (.loop (.seq _ (.seq (.block _ (.seq _ (.seq (.seq _ (.block _ (.loop (.seq _ (.seq _ d))))) _))) _))))) _))) => d | _ => .skip) ⟨fr', h, false⟩
                  (onNormal (fun s' => ∃ m', m' < ll.length - i ∧ ∃ fr i, s' = ⟨fr, h, false⟩ ∧ fr.length = 49 ∧ slotAt fr 0 = some (strss (s :: ll)) ∧ slotAt fr 3 = some out ∧ slotAt fr 4 = some (.int .i64 (k : Nat)) ∧ slotAt fr 5 = some (.bool ((ll.take i).all (fun l => hasS l s[k]))) ∧ slotAt fr 6 = some (.int .i64 ((i + 1 : Nat) : Int)) ∧ i ≤ ll.length ∧ m' = ll.length - i) (fun _ _ => False)) := by
              intro fr' hl' g0 g3 g4 g5 g6
              refine Ev.region ?_
              apply EvOps.run
              · intro call; simp [-Int.natCast_add, hl', g6, wrap_succ (i + 1) (by simp at hll; omega)]; exact rfl
              exact ⟨ll.length - (i + 1), by omega, _, i + 1, rfl, by simp [hl'], by simp [g0], by simp [g3], by simp [g4], by simp [g5], by simp [hl'], by omega, rfl⟩
            refine Ev.seq (Ev.block (Ev.region ?_))
            cases hb : (ll.take i).all (fun l => hasS l s[k]) with
            | false =>
              rw [hb] at h5
              apply EvOps.run
              · intro call; simp [hl, h5]; exact rfl
              refine (hgoal _ (by simp [hl]) (by simp [h0]) (by simp [h3]) (by simp [h4]) ?_ (by simp [h6])).mono ?_
              · rw [all_take_succ _ _ _ hi', hb]; simp [hl]
              · intro x s hs; cases x <;> simp only [onNormal] at hs <;> exact hs
            | true =>
              rw [hb] at h5
              refine EvOps.take 12 ?_
              apply EvOps.run
              · intro call; simp [hl, h0, h4, h5, h6, strs, strss, hi', hk']; exact rfl
              refine EvOps.call rfl (by simp [hl]) (by simp [hl]; exact rfl) (by simp [strs] <;> exact ⟨rfl, rfl⟩) (has_ok ll[i] s[k] (by have := hc ll[i] (List.mem_cons_of_mem _ (List.getElem_mem hi')); omega)) ?_
              apply EvOps.run
              · intro call; simp [hl]; exact rfl
              refine (hgoal _ (by simp [hl]) (by simp [h0]) (by simp [h3]) (by simp [h4]) ?_ (by simp [h6])).mono ?_
              · rw [all_take_succ _ _ _ hi', hb]; simp [hl]
              · intro x s hs; cases x <;> simp only [onNormal] at hs <;> exact hs
          · simp only [decide_eq_false_iff_not] at hi'
            rw [List.take_of_length_le (by omega)] at h5
            refine Ev.seq (Ev.region ?_)
            apply EvOps.run
            · intro call; simp [hl, h5]; exact rfl
            refine Ev.cond (ll.all (fun l => hasS l s[k])) (by simp [hl]) (fun he => ?_) (fun he => Ev.skip ?_)
            · refine Ev.region (EvOps.take 8 ?_)
              apply EvOps.run
              · intro call; simp [hl, h0, h3, h4, h5, h6, strs, strss, hk', buildSliceA]; exact rfl
              refine EvOps.append rfl rfl (by simp) (by simp [hl]; exact rfl) Try.underlying24 Try.underlying24 rfl Ty.s9 Ty.b9 Ty.z9 rfl hg (headOk_strs _) (ys := [.str s[k]]) (by simp [elemsA, headOk_cons]) ?_ ?_
              · have := List.length_filter_le (fun x => ll.all (fun l => hasS l x)) (s.take k)
                simp only [List.length_map, List.length_singleton, List.length_take] at this ⊢
                omega
              intro out1 h1' hg1 _
              apply EvOps.run
              · intro call; simp [hl]; exact rfl
              refine (nxt _ _ out1 (by simp [hl]) (by simp [h0]) (by simp [hl]) (by simp [h4]) ?_).mono ?_
              · rw [filter_take_succ _ _ _ hk', he]; simpa using hg1
              · intro x s hs; cases x <;> simp only [onNormal] at hs <;> exact hs
            · refine (nxt _ _ out (by simp [hl]) (by simp [h0]) (by simp [h3]) (by simp [h4]) ?_).mono ?_
              · rw [filter_take_succ _ _ _ hk', he]; simpa using hg
              · intro x s hs; cases x <;> simp only [onNormal] at hs <;> exact hs
        · exact ⟨_, 0, rfl, by simp [hl], by simp [h0], by simp [h3], by simp [h4], by simp [hl], by simp [hl], by omega, rfl⟩
      · simp only [decide_eq_false_iff_not] at hk'
        refine Ev.seq (Ev.region ?_)
        apply EvOps.run
        · intro call; simp [hl, h3]; exact rfl
        refine Ev.ret ⟨_, by simp [Try.f20, hl]; rfl, ?_⟩
        rw [hg.strip, stripL_strs, List.take_of_length_le (by omega)]
        rfl
    · exact ⟨_, _, _, 0, rfl, by simp, by simp [strss], by simp, Grow.nils _ _, by simp, by omega, rfl⟩
end Go.Proofs.Ytnifldbmflkmpaa
