/-
  strings.IndexByte; resp.right and resp.Right.
-/
import Derived.Test.YtnifldbmflkmpaaHb
namespace Go.Proofs.Ytnifldbmflkmpaa
open Go Ev
set_option linter.unusedVariables false
set_option linter.unusedSimpArgs false
set_option maxRecDepth 10000
theorem idx103 (s : S) (c : Int) : Ret cfg 103 [.str s, .int .u8 c] (.int .i64 (Lib.indexByte s c.toNat.toUInt8)) :=
  Ret.of_prim (p := idxA) rfl (by simp) rfl (by simp)
theorem idx82 (s : S) (c : Int) : Ret cfg 82 [.str s, .int .u8 c] (.int .i64 (Lib.indexByte s c.toNat.toUInt8)) := by
  refine Ret.of_body rfl rfl Try.func82 rfl (by simp) (by simp) ?_
  refine Ev.seq (Ev.region ?_)
  apply EvOps.run
  · intro call; simp [Try.f82]; exact rfl
  refine Ev.seq (Ev.region (EvOps.take 2 ?_))
  apply EvOps.run
  · intro call; simp; exact rfl
  refine EvOps.call rfl (by simp) (by simp <;> exact rfl) (by simp <;> exact ⟨rfl, rfl⟩) (idx103 s c) ?_
  apply EvOps.run
  · intro call; simp; exact rfl
  exact Ev.ret ⟨_, by simp [Try.f82]; rfl, by simp⟩
theorem idx67 (s : S) (c : Int) : Ret cfg 67 [.str s, .int .u8 c] (.int .i64 (Lib.indexByte s c.toNat.toUInt8)) := by
  refine Ret.of_body rfl rfl Try.func67 rfl (by simp) (by simp) ?_
  refine Ev.seq (Ev.region ?_)
  apply EvOps.run
  · intro call; simp [Try.f67]; exact rfl
  refine Ev.seq (Ev.region (EvOps.take 2 ?_))
  apply EvOps.run
  · intro call; simp; exact rfl
  refine EvOps.call rfl (by simp) (by simp <;> exact rfl) (by simp <;> exact ⟨rfl, rfl⟩) (idx82 s c) ?_
  apply EvOps.run
  · intro call; simp; exact rfl
  exact Ev.ret ⟨_, by simp [Try.f67]; rfl, by simp⟩
theorem lineS_idx (s : S) : lineS s = (decide (Lib.indexByte s 13 < 0) && decide (Lib.indexByte s 10 < 0)) := by
  rw [idx_none, idx_none, lineS]
  induction s with
  | nil => rfl
  | cons b s ih =>
    simp only [List.all_cons, ih]
    cases (b != 13) <;> cases (b != 10) <;> simp
/-- The function that right hands on. -/
theorem clos_ok (d : Nat) (b : Nat) (h : Heap) (hb : h[b]? = some (.cells [.int .i64 (d : Nat)])) (hd : d < 2 ^ 60) (r : R) (v : Bool) (hr : Ret cfg 80 [aR r, .int .i64 ((d : Int) - 1)] (.bool v)) :
    RetI cfg 100 [aR r, .ptr b 0] h (fun w h' d' => w = .bool (!v) ∧ h' = h ∧ d' = false) := by
  obtain ⟨k, s, n, l⟩ := r
  refine RetI.of_body rfl rfl Try.func100 rfl ?_
  refine Ev.seq (Ev.region ?_)
  apply EvOps.run
  · intro call; simp [Try.f100, aR]; exact rfl
  refine Ev.seq (Ev.region (EvOps.take 3 ?_))
  apply EvOps.run
  · intro call; simp [heap_old hb, wrap_int ((d : Int) - 1) (by omega) (by omega)]; exact rfl
  refine EvOps.call rfl (by simp) (by simp <;> exact rfl) (by simp [aR]) hr ?_
  apply EvOps.run
  · intro call; simp; exact rfl
  exact Ev.ret ⟨_, by simp [Try.f100], quiet_if (by simp) ⟨rfl, rfl, rfl⟩⟩
set_option maxHeartbeats 2000000 in
theorem idxf_ok (d : Nat) (b : Nat) (h : Heap) (hb : h[b]? = some (.cells [.int .i64 (d : Nat)])) (hd : d < 2 ^ 60) (l : List R) (hl60 : l.length < 2 ^ 60) (hr : ∀ (i : Nat) (hi : i < l.length), Ret cfg 80 [aR l[i], .int .i64 ((d : Int) - 1)] (.bool (rightR (d - 1) l[i]))) :
    RetI cfg 110 [rs l, .func (.func 100) [] [.ptr b 0]] h (fun w h' d' => (∃ j : Int, w = .int .i64 j ∧ decide (0 ≤ j) = !rightRs (d - 1) l) ∧ h' = h ∧ d' = false) := by
  refine RetI.of_body rfl rfl Try.func110 rfl ?_
  refine Ev.seq (Ev.region ?_)
  apply EvOps.run
  · intro call; simp [Try.f110]; exact rfl
  refine Ev.seq (Ev.seq (Ev.region ?_))
  apply EvOps.run
  · intro call; simp [rs]; exact rfl
  refine Ev.block ?_
  refine Ev.loop (fun m st => ∃ fr i, st = ⟨fr, h, false⟩ ∧ fr.length = 19 ∧ slotAt fr 0 = some (rs l) ∧ slotAt fr 1 = some (.func (.func 100) [] [.ptr b 0]) ∧ slotAt fr 7 = some (.int .i64 (l.length : Nat)) ∧ slotAt fr 8 = some (.int .i64 (i : Nat)) ∧ i ≤ l.length ∧ m = l.length - i ∧ rightRs (d - 1) l = rightRs (d - 1) (l.drop i)) ?_ l.length _ ?_
  · rintro m st ⟨fr, i, rfl, hl, h0, h1, h7, h8, hi, rfl, hp⟩
    refine Ev.seq (Ev.region ?_)
    apply EvOps.run
    · intro call; simp [hl, h7, h8]; exact rfl
    refine Ev.seq (Ev.cond (decide (i < l.length)) (by simp [hl]) (fun hc => Ev.skip ?_) (fun hc => Ev.exit ?_))
    · simp only [decide_eq_true_eq] at hc
      obtain ⟨cs, a1, a2, a3⟩ := aR_agg l[i]
      have ih := clos_ok d b h hb hd l[i] _ (hr i hc)
      refine Ev.seq (Ev.block (Ev.seq (Ev.region ?_)))
      apply EvOps.run
      · intro call; simp [hl, h8]; exact rfl
      refine Ev.seq (Ev.region (EvOps.take 5 ?_))
      apply EvOps.run
      · intro call; simp [hl, h0, h1, h8, rs, hc, a1, a2]; exact rfl
      rw [a1] at ih
      refine EvOps.calli (first := []) (captured := [.ptr b 0]) (vs := [.agg cs]) rfl (by simp [hl]) (by simp) (by simp [hl]) ih ?_
      rintro _ _ _ ⟨rfl, rfl, rfl⟩
      apply EvOps.run
      · intro call; simp; exact rfl
      refine Ev.cond (!(rightR (d - 1) l[i])) (by simp [hl]) (fun he => ?_) (fun he => Ev.skip ?_)
      · refine Ev.seq (Ev.region ?_)
        apply EvOps.run
        · intro call; simp [hl]; exact rfl
        refine Ev.ret ⟨.int .i64 (i : Nat), by simp [Try.f110, hl], quiet_if (by simp) ⟨⟨_, rfl, ?_⟩, rfl, rfl⟩⟩
        simp only [Bool.not_eq_true'] at he
        rw [hp, rightRs_take _ _ _ hc, he]
        simp
      · refine Ev.region ?_
        apply EvOps.run
        · intro call; simp [hl, h8, wrap_succ i (by omega)]; exact rfl
        simp only [Bool.not_eq_false'] at he
        exact ⟨l.length - (i + 1), by omega, _, i + 1, rfl, by simp [hl], by simp [h0], by simp [h1], by simp [h7], by simp [hl], by omega, rfl, by rw [hp, rightRs_take _ _ _ hc, he, Bool.true_and]⟩
    · simp only [decide_eq_false_iff_not] at hc
      refine Ev.seq (Ev.region ?_)
      apply EvOps.run
      · intro call; simp [hl]; exact rfl
      refine Ev.ret ⟨.int .i64 (-1), by simp [Try.f110, hl], quiet_if (by simp) ⟨⟨_, rfl, ?_⟩, rfl, rfl⟩⟩
      rw [hp, List.drop_of_length_le (by omega)]
      simp [rightRs]
  · exact ⟨_, 0, rfl, by simp, by simp [rs], by simp, by simp [rs], by simp, by omega, rfl, by simp⟩
theorem contf_ok (d : Nat) (b : Nat) (h : Heap) (hb : h[b]? = some (.cells [.int .i64 (d : Nat)])) (hd : d < 2 ^ 60) (l : List R) (hl60 : l.length < 2 ^ 60) (hr : ∀ (i : Nat) (hi : i < l.length), Ret cfg 80 [aR l[i], .int .i64 ((d : Int) - 1)] (.bool (rightR (d - 1) l[i]))) :
    RetI cfg 99 [rs l, .func (.func 100) [] [.ptr b 0]] h (fun w h' d' => w = .bool (!rightRs (d - 1) l) ∧ h' = h ∧ d' = false) := by
  refine RetI.of_body rfl rfl Try.func99 rfl ?_
  refine Ev.seq (Ev.region ?_)
  apply EvOps.run
  · intro call; simp [Try.f99]; exact rfl
  refine Ev.seq (Ev.region (EvOps.take 2 ?_))
  apply EvOps.run
  · intro call; simp; exact rfl
  refine EvOps.calli (first := []) (captured := []) (vs := [rs l, .func (.func 100) [] [.ptr b 0]]) rfl (by simp) (by simp) (by simp) (idxf_ok d b h hb hd l hl60 hr) ?_
  rintro _ _ _ ⟨⟨j, rfl, hj⟩, rfl, rfl⟩
  apply EvOps.run
  · intro call; simp [hj]; exact rfl
  exact Ev.ret ⟨_, by simp [Try.f99], quiet_if (by simp) ⟨rfl, rfl, rfl⟩⟩
end Go.Proofs.Ytnifldbmflkmpaa
