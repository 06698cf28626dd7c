/-
  The functions of the set laws, as the evaluator runs them.
-/
import Derived.Test.YtnifldbmflkmpaaFe
namespace Go.Proofs.Ytnifldbmflkmpaa
open Go Ev
set_option linter.unusedVariables false
set_option linter.unusedSimpArgs false
set_option maxRecDepth 10000
theorem keepIf_length (b : Bool) (x : S) : (keepIf b x).length ≤ 1 := by unfold keepIf; split <;> simp
theorem mergeS_length (k : Bool → Bool → Bool) : ∀ (a b : List S), (mergeS k a b).length ≤ a.length + b.length := by
  intro a b
  induction a, b using mergeS.induct with
  | case1 => simp [mergeS]
  | case2 a xs ih => have := keepIf_length (k true false) a; simp only [mergeS, List.length_append, List.length_cons, List.length_nil] at ih ⊢; omega
  | case3 b ys ih => have := keepIf_length (k false true) b; simp only [mergeS, List.length_append, List.length_cons, List.length_nil] at ih ⊢; omega
  | case4 a xs b ys h ih => have := keepIf_length (k true false) a; simp only [mergeS, if_pos h, List.length_append, List.length_cons] at ih ⊢; omega
  | case5 a xs b ys h h' ih => have := keepIf_length (k false true) b; simp only [mergeS, if_neg h, if_pos h', List.length_append, List.length_cons] at ih ⊢; omega
  | case6 a xs b ys h h' ih => have := keepIf_length (k true true) b; simp only [mergeS, if_neg h, if_neg h', List.length_append, List.length_cons] at ih ⊢; omega
def foldM (k : Bool → Bool → Bool) (s : List S) (ll : List (List S)) : List S := ll.foldl (mergeS k) s
theorem foldM_length (k : Bool → Bool → Bool) (c : Nat) : ∀ (ll : List (List S)) (s : List S), (∀ l ∈ ll, l.length ≤ c) → (foldM k s ll).length ≤ s.length + ll.length * c
  | [], s, _ => by simp [foldM]
  | l :: ll, s, h => by
    have := foldM_length k c ll (mergeS k s l) (fun x hx => h x (List.mem_cons_of_mem _ hx))
    have h1 := mergeS_length k s l
    have h2 := h l (by simp)
    simp only [foldM, List.foldl_cons, List.length_cons, Nat.succ_mul] at this ⊢
    omega
theorem mem_take_of {α : Type} {l : List α} {i : Nat} {x : α} (h : x ∈ l.take i) : x ∈ l := List.mem_of_mem_take h
theorem foldM_take_bound (k : Bool → Bool → Bool) (s : List S) (ll : List (List S)) (i : Nat) (hll : ll.length ≤ 1024) (hc : ∀ l ∈ ll, l.length ≤ 1048576) (hs : s.length ≤ 1048576) (l : List S) (hl : l ∈ ll) : (foldM k s (ll.take i)).length + l.length < 2 ^ 40 := by
  have h1 := foldM_length k 1048576 (ll.take i) s (fun x hx => hc x (List.mem_of_mem_take hx))
  have h2 := hc l hl
  have h3 : (ll.take i).length * 1048576 ≤ 1024 * 1048576 := Nat.mul_le_mul_right _ (by simp; omega)
  omega
/-- A list that a pure call gave, or nil. -/
def Lv (v : AV) (ss : List S) : Prop := (v = .nils ∧ ss = []) ∨ v = strs ss
theorem Lv.strip {v : AV} {ss : List S} (h : Lv v ss) : v.strip = strs ss := by
  rcases h with ⟨rfl, rfl⟩ | rfl <;> simp [strs]
theorem Lv.len {v : AV} {ss : List S} (h : Lv v ss) : lenA Try.prog 24 v = some (.int .i64 (ss.length : Nat)) := by
  rcases h with ⟨rfl, rfl⟩ | rfl <;> simp [strs]
def orB (_ _ : Bool) : Bool := true
def andB (a b : Bool) : Bool := a && b
def notB (a b : Bool) : Bool := a && !b
def unionS (ll : List (List S)) : List S := foldM orB [] ll
theorem union_ok (ll : List (List S)) (hll : ll.length ≤ 1024) (hc : ∀ l ∈ ll, l.length ≤ 1048576) : Ret cfg 16 [strss ll] (if (unionS ll).length ≤ 512 then .tuple [strs (unionS ll), .int .i64 0] else .tuple [strs [], .int .i64 22]) := by
  refine Ret.of_body rfl rfl Try.func16 rfl (by simp) (by split <;> simp) ?_
  refine Ev.seq (Ev.region ?_)
  apply EvOps.run
  · intro call; simp [Try.f16]; exact rfl
  refine Ev.seq (Ev.region ?_)
  apply EvOps.run
  · intro call; simp; exact rfl
  refine Ev.seq (Ev.seq (Ev.region ?_))
  apply EvOps.run
  · intro call; simp [strss]; exact rfl
  refine Ev.block ?_
  refine Ev.loop (fun m st => ∃ fr i v, st = ⟨fr, [], false⟩ ∧ fr.length = 21 ∧ slotAt fr 7 = some (strss ll) ∧ slotAt fr 8 = some (.int .i64 (ll.length : Nat)) ∧ slotAt fr 4 = some v ∧ Lv v (foldM orB [] (ll.take i)) ∧ slotAt fr 9 = some (.int .i64 (i : Nat)) ∧ i ≤ ll.length ∧ m = ll.length - i) ?_ ll.length _ ?_
  · rintro m st ⟨fr, i, v, rfl, hl, h7, h8, h4, hv, h9, hi, rfl⟩
    refine Ev.seq (Ev.region ?_)
    apply EvOps.run
    · intro call; simp [hl, h8, h9]; exact rfl
    refine Ev.seq (Ev.cond (decide (i < ll.length)) (by simp [hl]) (fun hc => Ev.skip ?_) (fun hc => Ev.exit ?_))
    · simp only [decide_eq_true_eq] at hc
      refine Ev.seq (Ev.block (Ev.seq (Ev.region ?_)))
      apply EvOps.run
      · intro call; simp [hl, h7, h8, h9, strs, strss, hc]; exact rfl
      refine Ev.region (EvOps.take 2 ?_)
      apply EvOps.run
      · intro call; simp [hl, h4]; exact rfl
      refine EvOps.call rfl (by simp [hl]) (by simp [hl]; exact rfl) (by simp [hv.strip, strs] <;> exact ⟨rfl, rfl⟩) (merge_ok 57 orB (fun a b => either_ok a b) (foldM orB [] (ll.take i)) ll[i] (foldM_take_bound _ _ _ _ hll (by assumption) (by simp) _ (List.getElem_mem hc))) ?_
      apply EvOps.run
      · intro call; simp [hl]; exact rfl
      refine Ev.region ?_
      apply EvOps.run
      · intro call; simp [hl, h9, wrap_succ i (by omega)]; exact rfl
      refine ⟨ll.length - (i + 1), by omega, _, i + 1, strs (foldM orB [] (ll.take (i + 1))), rfl, by simp [hl], by simp [h7], by simp [h8], ?_, .inr rfl, by simp [hl], by omega, rfl⟩
      simp only [foldM, foldl_take_succ _ _ _ _ hc]
      simp [hl]
    · simp only [decide_eq_false_iff_not] at hc
      have hfull : foldM orB [] (ll.take i) = unionS ll := by rw [List.take_of_length_le (by omega)]; rfl
      rw [hfull] at hv
      refine Ev.seq (Ev.seq (Ev.region ?_))
      apply EvOps.keep (h' := []) (d' := false) (fun fr => fr.length = 21 ∧ slotAt fr 4 = some v ∧ slotAt fr 19 = some (.bool (decide (512 < (unionS ll).length))))
      · intro call; simp [-lenA, hl, h4, hv.len]; exact rfl
      · exact ⟨by simp [hl], by simp [h4], by simp [hl]; omega⟩
      rintro fr ⟨hl, h4, h19⟩
      refine Ev.cond _ (by simp [h19]; rfl) (fun hq => ?_) (fun hq => Ev.skip ?_)
      · refine Ev.seq (Ev.region ?_)
        apply EvOps.run
        · intro call; simp [hl]; exact rfl
        refine Ev.ret ⟨_, by simp [Try.f16, hl]; rfl, ?_⟩
        simp only [decide_eq_true_eq] at hq
        rw [if_neg (by omega)]
        simp [strs]
      · refine Ev.seq (Ev.region ?_)
        apply EvOps.run
        · intro call; simp [hl, h4]; exact rfl
        refine Ev.ret ⟨_, by simp [Try.f16, hl]; rfl, ?_⟩
        simp only [decide_eq_false_iff_not] at hq
        rw [if_pos (by omega)]
        simp [hv.strip]
  · exact ⟨_, 0, .nils, rfl, by simp, by simp [strss], by simp, by simp, .inl ⟨rfl, by simp [foldM]⟩, by simp, by omega, rfl⟩
end Go.Proofs.Ytnifldbmflkmpaa
