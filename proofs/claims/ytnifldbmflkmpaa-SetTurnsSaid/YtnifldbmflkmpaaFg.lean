/-
  The functions of the set laws, as the evaluator runs them.
-/
import Derived.Test.YtnifldbmflkmpaaFf
namespace Go.Proofs.Ytnifldbmflkmpaa
open Go Ev
set_option linter.unusedVariables false
set_option linter.unusedSimpArgs false
set_option maxRecDepth 10000
def putAll (s : List S) (l : List S) : List S := l.foldl putS s
def refUnionS (ll : List (List S)) : List S := ll.foldl putAll []
theorem putAll_length (l : List S) : ∀ s : List S, (putAll s l).length ≤ s.length + l.length := by
  induction l with
  | nil => intro s; simp [putAll]
  | cons a l ih => intro s; have := ih (putS s a); have := putS_length s a; simp only [putAll, List.foldl_cons, List.length_cons] at *; omega
theorem putAll_short (c : Nat) (l : List S) : ∀ s : List S, (∀ x ∈ s, x.length ≤ c) → (∀ x ∈ l, x.length ≤ c) → ∀ x ∈ putAll s l, x.length ≤ c := by
  induction l with
  | nil => intro s h _; simpa [putAll] using h
  | cons a l ih =>
    intro s h hl
    refine ih (putS s a) (fun x hx => ?_) (fun x hx => hl x (List.mem_cons_of_mem _ hx))
    rcases mem_putS.1 hx with e | e
    · exact h x e
    · exact e ▸ hl a (by simp)
theorem refU_length (c : Nat) : ∀ (ll : List (List S)) (s : List S), (∀ l ∈ ll, l.length ≤ c) → (ll.foldl putAll s).length ≤ s.length + ll.length * c
  | [], s, _ => by simp
  | l :: ll, s, h => by
    have := refU_length c ll (putAll s l) (fun x hx => h x (List.mem_cons_of_mem _ hx))
    have h1 := putAll_length l s
    have h2 := h l (by simp)
    simp only [List.foldl_cons, List.length_cons, Nat.succ_mul] at this ⊢
    omega
theorem refU_short (c : Nat) : ∀ (ll : List (List S)) (s : List S), (∀ x ∈ s, x.length ≤ c) → (∀ l ∈ ll, ∀ x ∈ l, x.length ≤ c) → ∀ x ∈ ll.foldl putAll s, x.length ≤ c
  | [], s, h, _ => by simpa using h
  | l :: ll, s, h, h' => refU_short c ll (putAll s l) (putAll_short c l s h (h' l (by simp))) (fun l hl => h' l (List.mem_cons_of_mem _ hl))

theorem refUnion_ok (ll : List (List S)) (hll : ll.length ≤ 1024) (hc : ∀ l ∈ ll, l.length ≤ 1048576) (hs : ∀ l ∈ ll, ∀ x ∈ l, x.length ≤ 1048576) : Ret cfg 17 [strss ll] (if (refUnionS ll).length ≤ 512 then .tuple [strs (refUnionS ll), .int .i64 0] else .tuple [strs [], .int .i64 22]) := by
  refine Ret.of_body rfl rfl Try.func17 rfl (by simp) (by split <;> simp) ?_
  refine Ev.seq (Ev.region ?_)
  apply EvOps.run
  · intro call; simp [Try.f17]; exact rfl
  refine Ev.seq (Ev.region ?_)
  apply EvOps.run
  · intro call; simp; exact rfl
  refine Ev.seq (Ev.seq (Ev.region ?_))
  apply EvOps.run
  · intro call; simp; exact rfl
  refine Ev.block ?_
  refine Ev.loop (fun m st => ∃ fr i v, st = ⟨fr, [], false⟩ ∧ fr.length = 35 ∧ slotAt fr 0 = some (strss ll) ∧ slotAt fr 4 = some v ∧ Lv v ((ll.take i).foldl putAll []) ∧ slotAt fr 5 = some (.int .i64 (i : Nat)) ∧ i ≤ ll.length ∧ m = ll.length - i) ?_ ll.length _ ?_
  · rintro m st ⟨fr, i, v, rfl, hl, h0, h4, hv, h5, hi, rfl⟩
    refine Ev.seq (Ev.seq (Ev.region ?_))
    apply EvOps.run
    · intro call; simp [hl, h0, h5, strss]; exact rfl
    refine Ev.cond (decide (i < ll.length)) (by simp [hl]) (fun hc' => Ev.skip ?_) (fun hc' => Ev.exit ?_)
    · simp only [decide_eq_true_eq] at hc'
      refine Ev.seq (Ev.block (Ev.seq (Ev.region ?_)))
      apply EvOps.run
      · intro call; simp [hl]; exact rfl
      refine Ev.block ?_
      refine Ev.loop (fun m st => ∃ fr k v, st = ⟨fr, [], false⟩ ∧ fr.length = 35 ∧ slotAt fr 0 = some (strss ll) ∧ slotAt fr 4 = some v ∧ Lv v (putAll ((ll.take i).foldl putAll []) (ll[i].take k)) ∧ slotAt fr 5 = some (.int .i64 (i : Nat)) ∧ slotAt fr 6 = some (.int .i64 (k : Nat)) ∧ k ≤ ll[i].length ∧ m = ll[i].length - k) ?_ ll[i].length _ ?_
      · rintro m st ⟨fr, k, v, rfl, hl, h0, h4, hv, h5, h6, hk, rfl⟩
        have hlen := hc ll[i] (List.getElem_mem hc')
        refine Ev.seq (Ev.seq (Ev.region ?_))
        apply EvOps.run
        · intro call; simp [hl, h0, h5, h6, strs, strss, hc']; exact rfl
        refine Ev.cond (decide (k < ll[i].length)) (by simp [hl]) (fun hk' => Ev.skip ?_) (fun hk' => Ev.exit ?_)
        · simp only [decide_eq_true_eq] at hk'
          refine Ev.seq (Ev.block (Ev.region (EvOps.take 8 ?_)))
          apply EvOps.run
          · intro call; simp [hl, h0, h4, h5, h6, strs, strss, hc', hk']; exact rfl
          refine EvOps.call rfl (by simp [hl]) (by simp [hl]; exact rfl) (by simp [hv.strip] <;> exact ⟨rfl, rfl⟩) (put_ok (putAll ((ll.take i).foldl putAll []) (ll[i].take k)) ll[i][k] ?_ ?_) ?_
          · have h1 := refU_length 1048576 (ll.take i) [] (fun x hx => hc x (List.mem_of_mem_take hx))
            have h2 := putAll_length (ll[i].take k) ((ll.take i).foldl putAll [])
            have h3 : (ll.take i).length * 1048576 ≤ 1024 * 1048576 := Nat.mul_le_mul_right _ (by simp; omega)
            simp only [List.length_take, List.length_nil] at h1 h2 h3
            omega
          · intro s hs'
            have := putAll_short 1048576 (ll[i].take k) ((ll.take i).foldl putAll []) (refU_short 1048576 _ [] (by simp) (fun l hl => hs l (List.mem_of_mem_take hl))) (fun x hx => hs _ (List.getElem_mem hc') x (List.mem_of_mem_take hx)) s hs'
            omega
          apply EvOps.run
          · intro call; simp [hl]; exact rfl
          refine Ev.region ?_
          apply EvOps.run
          · intro call; simp [hl, h6, wrap_succ k (by omega)]; exact rfl
          refine ⟨ll[i].length - (k + 1), by omega, _, k + 1, _, rfl, by simp [hl], by simp [h0], by simp [hl]; exact rfl, .inr ?_, by simp [h5], by simp [hl], by omega, rfl⟩
          simp only [putAll, foldl_take_succ _ _ _ _ hk']
        · simp only [decide_eq_false_iff_not] at hk'
          refine Ev.region ?_
          apply EvOps.run
          · intro call; simp [hl, h5, wrap_succ i (by omega)]; exact rfl
          refine ⟨ll.length - (i + 1), by omega, _, i + 1, v, rfl, by simp [hl], by simp [h0], by simp [h4], ?_, by simp [hl], by omega, rfl⟩
          rw [foldl_take_succ _ _ _ _ hc']
          rw [List.take_of_length_le (l := ll[i]) (by omega)] at hv
          exact hv
      · exact ⟨_, 0, v, rfl, by simp [hl], by simp [h0], by simp [h4], by simpa [putAll] using hv, by simp [h5], by simp [hl], by omega, rfl⟩
    · simp only [decide_eq_false_iff_not] at hc'
      have hfull : (ll.take i).foldl putAll [] = refUnionS ll := by rw [List.take_of_length_le (by omega)]; rfl
      rw [hfull] at hv
      refine Ev.seq (Ev.seq (Ev.region ?_))
      apply EvOps.keep (h' := []) (d' := false) (fun fr => fr.length = 35 ∧ slotAt fr 4 = some v ∧ slotAt fr 33 = some (.bool (decide (512 < (refUnionS ll).length))))
      · intro call; simp [-lenA, hl, h4, hv.len]; exact rfl
      · exact ⟨by simp [hl], by simp [h4], by simp [hl]; omega⟩
      rintro fr ⟨hl, h4, h19⟩
      refine Ev.cond _ (by simp [h19]; rfl) (fun hq => ?_) (fun hq => Ev.skip ?_)
      · refine Ev.seq (Ev.region ?_)
        apply EvOps.run
        · intro call; simp [hl]; exact rfl
        refine Ev.ret ⟨_, by simp [Try.f17, hl]; rfl, ?_⟩
        simp only [decide_eq_true_eq] at hq
        rw [if_neg (by omega)]
        simp [strs]
      · refine Ev.seq (Ev.region ?_)
        apply EvOps.run
        · intro call; simp [hl, h4]; exact rfl
        refine Ev.ret ⟨_, by simp [Try.f17, hl]; rfl, ?_⟩
        simp only [decide_eq_false_iff_not] at hq
        rw [if_pos (by omega)]
        simp [hv.strip]
  · exact ⟨_, 0, .nils, rfl, by simp, by simp, by simp, .inl ⟨rfl, by simp⟩, by simp, by omega, rfl⟩

theorem diff_ok (s : List S) (ll : List (List S)) (hll : ll.length ≤ 1024) (hc : ∀ l ∈ ll, l.length ≤ 1048576) (hs : s.length ≤ 1048576) : Ret cfg 21 [strs s, strss ll] (strs (foldM notB s ll)) := by
  refine Ret.of_body rfl rfl Try.func21 rfl (by simp) (by simp) ?_
  refine Ev.seq (Ev.region ?_)
  apply EvOps.run
  · intro call; simp [Try.f21]; exact rfl
  refine Ev.seq (Ev.region (EvOps.take 1 ?_))
  apply EvOps.run
  · intro call; simp; exact rfl
  refine EvOps.call rfl (by simp) (by simp; exact rfl) (by simp <;> exact rfl) (clone_ok s (by omega)) ?_
  apply EvOps.run
  · intro call; simp; exact rfl
  refine Ev.seq (Ev.seq (Ev.region ?_))
  apply EvOps.run
  · intro call; simp [strss]; exact rfl
  refine Ev.block ?_
  refine Ev.loop (fun m st => ∃ fr i, st = ⟨fr, [], false⟩ ∧ fr.length = 21 ∧ slotAt fr 10 = some (strss ll) ∧ slotAt fr 11 = some (.int .i64 (ll.length : Nat)) ∧ slotAt fr 5 = some (strs (foldM notB s (ll.take i))) ∧ slotAt fr 12 = some (.int .i64 (i : Nat)) ∧ i ≤ ll.length ∧ m = ll.length - i) ?_ ll.length _ ?_
  · rintro m st ⟨fr, i, rfl, hl, h7, h8, h4, h9, hi, rfl⟩
    refine Ev.seq (Ev.region ?_)
    apply EvOps.run
    · intro call; simp [hl, h8, h9]; exact rfl
    refine Ev.seq (Ev.cond (decide (i < ll.length)) (by simp [hl]) (fun hc => Ev.skip ?_) (fun hc => Ev.exit ?_))
    · simp only [decide_eq_true_eq] at hc
      refine Ev.seq (Ev.block (Ev.seq (Ev.region ?_)))
      apply EvOps.run
      · intro call; simp [hl, h7, h8, h9, strs, strss, hc]; exact rfl
      refine Ev.region (EvOps.take 2 ?_)
      apply EvOps.run
      · intro call; simp [hl, h4]; exact rfl
      refine EvOps.call rfl (by simp [hl]) (by simp [hl]; exact rfl) (by simp [strs] <;> exact ⟨rfl, rfl⟩) (merge_ok 60 notB (fun a b => first_ok a b) (foldM notB s (ll.take i)) ll[i] (foldM_take_bound _ _ _ _ hll (by assumption) hs _ (List.getElem_mem hc))) ?_
      apply EvOps.run
      · intro call; simp [hl]; exact rfl
      refine Ev.region ?_
      apply EvOps.run
      · intro call; simp [hl, h9, wrap_succ i (by omega)]; exact rfl
      refine ⟨ll.length - (i + 1), by omega, _, i + 1, rfl, by simp [hl], by simp [h7], by simp [h8], ?_, by simp [hl], by omega, rfl⟩
      simp only [foldM, foldl_take_succ _ _ _ _ hc]
      simp [hl]
    · simp only [decide_eq_false_iff_not] at hc
      refine Ev.seq (Ev.region ?_)
      apply EvOps.run
      · intro call; simp [hl, h4]; exact rfl
      refine Ev.ret ⟨_, by simp [Try.f21, hl]; rfl, ?_⟩
      rw [strip_strs, List.take_of_length_le (by omega)]
  · exact ⟨_, 0, rfl, by simp, by simp [strss], by simp, by simp [foldM], by simp, by omega, rfl⟩

def refDiffS (s : List S) (ll : List (List S)) : List S := ll.foldl withoutS s
theorem refDiff_length : ∀ (ll : List (List S)) (s : List S), (refDiffS s ll).length ≤ s.length
  | [], s => Nat.le_refl _
  | l :: ll, s => Nat.le_trans (refDiff_length ll (withoutS s l)) (List.length_filter_le _ _)
theorem refDiff_ok (s : List S) (ll : List (List S)) (hll : ll.length ≤ 1024) (hc : ∀ l ∈ ll, l.length ≤ 1048576) (hs : s.length ≤ 1048576) : Ret cfg 22 [strs s, strss ll] (strs (refDiffS s ll)) := by
  refine Ret.of_body rfl rfl Try.func22 rfl (by simp) (by simp) ?_
  refine Ev.seq (Ev.region ?_)
  apply EvOps.run
  · intro call; simp [Try.f22]; exact rfl
  refine Ev.seq (Ev.seq (Ev.region ?_))
  apply EvOps.run
  · intro call; simp; exact rfl
  refine Ev.block ?_
  refine Ev.loop (fun m st => ∃ fr i, st = ⟨fr, [], false⟩ ∧ fr.length = 19 ∧ slotAt fr 1 = some (strss ll) ∧ slotAt fr 0 = some (strs (refDiffS s (ll.take i))) ∧ slotAt fr 5 = some (.int .i64 (i : Nat)) ∧ i ≤ ll.length ∧ m = ll.length - i) ?_ ll.length _ ?_
  · rintro m st ⟨fr, i, rfl, hl, h1, h0, h5, hi, rfl⟩
    refine Ev.seq (Ev.seq (Ev.region ?_))
    apply EvOps.run
    · intro call; simp [hl, h1, h5, strss]; exact rfl
    refine Ev.cond (decide (i < ll.length)) (by simp [hl]) (fun hc => Ev.skip ?_) (fun hc => Ev.exit ?_)
    · simp only [decide_eq_true_eq] at hc
      refine Ev.seq (Ev.block (Ev.region (EvOps.take 5 ?_)))
      apply EvOps.run
      · intro call; simp [hl, h0, h1, h5, strs, strss, hc]; exact rfl
      refine EvOps.call rfl (by simp [hl]) (by simp [hl]; exact rfl) (by simp [strs] <;> exact ⟨rfl, rfl⟩) (without_ok (refDiffS s (ll.take i)) ll[i] (by have := refDiff_length (ll.take i) s; omega) (by have := (show ∀ l ∈ ll, l.length ≤ 1048576 by assumption) ll[i] (List.getElem_mem hc); omega)) ?_
      apply EvOps.run
      · intro call; simp [hl]; exact rfl
      refine Ev.region ?_
      apply EvOps.run
      · intro call; simp [hl, h5, wrap_succ i (by omega)]; exact rfl
      refine ⟨ll.length - (i + 1), by omega, _, i + 1, rfl, by simp [hl], by simp [h1], ?_, by simp [hl], by omega, rfl⟩
      simp only [refDiffS, foldl_take_succ _ _ _ _ hc]
      simp [hl]
    · simp only [decide_eq_false_iff_not] at hc
      refine Ev.seq (Ev.region ?_)
      apply EvOps.run
      · intro call; simp [hl, h0]; exact rfl
      refine Ev.ret ⟨_, by simp [Try.f22, hl]; rfl, ?_⟩
      rw [strip_strs, List.take_of_length_le (by omega)]
  · exact ⟨_, 0, rfl, by simp, by simp, by simp [refDiffS], by simp, by omega, rfl⟩
end Go.Proofs.Ytnifldbmflkmpaa
