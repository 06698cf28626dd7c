/-
  resp.right and resp.Right.
-/
import Derived.Test.YtnifldbmflkmpaaHc
import Derived.Test.YtnifldbmflkmpaaGf
namespace Go.Proofs.Ytnifldbmflkmpaa
open Go Ev
set_option linter.unusedVariables false
set_option linter.unusedSimpArgs false
set_option maxRecDepth 10000
/-- resp.right, as it counts. -/
def rightP (d : Nat) (k : Int) (s : S) (n : Int) (l : List R) : Bool :=
  if k = 0 ∨ k = 1 then (n == 0 && (l.length : Int) == 0) && lineS s
  else if k = 2 then s == [] && (l.length : Int) == 0
  else if k = 3 then n == 0 && (l.length : Int) == 0
  else if k = 4 then s == [] && n == 0 && (l.length : Int) == 0
  else if k = 5 then d != 0 && (s == [] && n == 0) && rightRs (d - 1) l
  else false
theorem len0 (l : List R) : ((l.length : Int) == 0) = l.isEmpty := by cases l <;> simp
theorem lenp (l : List R) : decide (0 < l.length) = !l.isEmpty := by cases l <;> simp
theorem rightP_eq (d : Nat) (k : Int) (s : S) (n : Int) (l : List R) : rightP d k s n l = rightR d (.mk k s n l) := by
  have hs : (s != []) = !(s == []) := rfl
  by_cases h0 : k < 0
  · simp [rightP, rightR, badHead, h0, show k ≠ 0 by omega, show k ≠ 1 by omega, show k ≠ 2 by omega, show k ≠ 3 by omega, show k ≠ 4 by omega, show k ≠ 5 by omega]
  by_cases h5 : 5 < k
  · simp [rightP, rightR, badHead, h0, h5, show k ≠ 0 by omega, show k ≠ 1 by omega, show k ≠ 2 by omega, show k ≠ 3 by omega, show k ≠ 4 by omega, show k ≠ 5 by omega]
  have hl : l = [] → rightRs (d - 1) l = true := by rintro rfl; simp only [rightRs]
  have hle : l.isEmpty = true → rightRs (d - 1) l = true := fun h => hl (List.isEmpty_iff.1 h)
  have hk : k = 0 ∨ k = 1 ∨ k = 2 ∨ k = 3 ∨ k = 4 ∨ k = 5 := by omega
  simp only [rightP, rightR, badHead, len0, lenp, hs, bne]
  rcases hk with rfl | rfl | rfl | rfl | rfl | rfl
  all_goals
    revert hle
    generalize rightRs (d - 1) l = rr
    generalize lineS s = ls
    generalize (s == []) = es
    generalize (n == 0) = en
    generalize l.isEmpty = el
    generalize (d == 0) = ed
    cases rr <;> cases ls <;> cases es <;> cases en <;> cases el <;> cases ed <;> simp
set_option maxHeartbeats 8000000 in
theorem right_ok : ∀ (d : Nat) (r : R), d < 2 ^ 60 → smR r → Ret cfg 80 [aR r, .int .i64 (d : Nat)] (.bool (rightR d r))
  | d, .mk k s n l, hd, hsm => by
    simp only [smR] at hsm
    obtain ⟨hs2, hl2, _, hsm⟩ := hsm
    have ih : d ≠ 0 → ∀ (i : Nat) (h : i < l.length), Ret cfg 80 [aR l[i], .int .i64 ((d : Int) - 1)] (.bool (rightR (d - 1) l[i])) := fun hd0 i h => by
      have := elem_size h
      have := right_ok (d - 1) l[i] (by omega) (smRs_get i h hsm)
      rwa [show ((d - 1 : Nat) : Int) = (d : Int) - 1 by omega] at this
    rw [← rightP_eq]
    refine Ret.of_body rfl rfl Try.func80 rfl (by simp) (by simp) ?_
    refine Ev.seq (Ev.region ?_)
    apply EvOps.keep (h' := [.cells [.int .i64 k, .str s, .int .i64 n, rs l], .cells [.int .i64 (d : Nat)]]) (d' := false) (fun fr => fr.length = 51 ∧ slotAt fr 2 = some (.ptr 0 0) ∧ slotAt fr 3 = some (.ptr 1 0))
    · intro call; simp [Try.f80, aR, rs]; exact rfl
    · exact ⟨by simp, by simp, by simp⟩
    rintro fr ⟨hl, h2, h3⟩
    refine Ev.seq (Ev.seq (Ev.region ?_))
    apply EvOps.keep (h' := [.cells [.int .i64 k, .str s, .int .i64 n, rs l], .cells [.int .i64 (d : Nat)]]) (d' := false) (fun fr => fr.length = 51 ∧ slotAt fr 2 = some (.ptr 0 0) ∧ slotAt fr 3 = some (.ptr 1 0) ∧ slotAt fr 6 = some (.int .i64 k))
    · intro call; simp [hl, h2]; exact rfl
    · exact ⟨by simp [hl], by simp [h2], by simp [h3], by simp [hl]⟩
    clear hl h2 h3 fr
    rintro fr ⟨hl, h2, h3, h6⟩
    refine Ev.block ?_
    refine Ev.seq (Ev.mid (fun st => ∃ fr : List AV, st = ⟨fr, [.cells [.int .i64 k, .str s, .int .i64 n, rs l], .cells [.int .i64 (d : Nat)]], false⟩ ∧ fr.length = 51 ∧ slotAt fr 2 = some (.ptr 0 0) ∧ slotAt fr 3 = some (.ptr 1 0) ∧ slotAt fr 6 = some (.int .i64 k) ∧ slotAt fr 7 = some (.bool (k == 0))) ?_ ?_)
    · refine Ev.region ?_
      apply EvOps.run
      · intro call; simp [hl, h6]; exact rfl
      exact ⟨_, rfl, by simp [hl], by simp [h2], by simp [h3], by simp [h6], by simp [hl]⟩
    clear hl h2 h3 h6 fr
    rintro _ ⟨fr, rfl, hl, h2, h3, h6, h7⟩
    refine Ev.mono (Q := fun x st => x = .normal ∧ ∃ fr : List AV, st = ⟨fr, [.cells [.int .i64 k, .str s, .int .i64 n, rs l], .cells [.int .i64 (d : Nat)]], false⟩ ∧ fr.length = 51 ∧ slotAt fr 2 = some (.ptr 0 0) ∧ slotAt fr 3 = some (.ptr 1 0) ∧ slotAt fr 6 = some (.int .i64 k) ∧ slotAt fr 7 = some (.bool (k == 0 || k == 1))) ?_ ?_
    · refine Ev.cond (k == 0) (by simp only [op_tmp, h7]) (fun h => Ev.skip ⟨rfl, fr, rfl, hl, h2, h3, h6, by rw [h7, h]; rfl⟩) (fun h => Ev.region ?_)
      apply EvOps.run
      · intro call; simp [hl, h6]; exact rfl
      exact ⟨rfl, _, rfl, by simp [hl], by simp [h2], by simp [h3], by simp [h6], by simp [hl, h]⟩
    clear hl h2 h3 h6 h7 fr
    rintro _ _ ⟨rfl, fr, rfl, hl, h2, h3, h6, h7⟩
    refine Ev.cond (k == 0 || k == 1) (by simp only [op_tmp, h7]) (fun h01 => ?_) (fun h01 => ?_)
    · have hres : rightP d k s n l = ((n == 0 && (l.length : Int) == 0) && lineS s) := by
        simp only [Bool.or_eq_true, beq_iff_eq] at h01
        rw [rightP, if_pos h01]
      rw [lineS_idx] at hres
      have hb := bare_ok k s n l true false false
      simp only [Bool.true_or, Bool.true_and, Bool.false_or] at hb
      have i13 := idx67 s 13
      have i10 := idx67 s 10
      simp only [show (13 : Int).toNat.toUInt8 = 13 from rfl] at i13
      simp only [show (10 : Int).toNat.toUInt8 = 10 from rfl] at i10
      generalize (n == 0 && (l.length : Int) == 0) = B at hb hres
      generalize Lib.indexByte s 13 = J at i13 hres
      generalize Lib.indexByte s 10 = J' at i10 hres
      refine Ev.seq (Ev.region (EvOps.take 1 ?_))
      apply EvOps.run
      · intro call; simp [hl, h2, rs]; exact rfl
      refine EvOps.call rfl (by simp) (by simp [hl] <;> exact rfl) (by simp [aR] <;> exact rfl) hb ?_
      cases B with
      | false =>
        apply EvOps.run
        · intro call; simp [hl]; exact rfl
        exact Ev.ret ⟨.bool false, by simp [Try.f80, hl], by rw [hres]; rfl⟩
      | true =>
        refine EvOps.take 3 ?_
        apply EvOps.run
        · intro call; simp [hl, h2, rs]; exact rfl
        refine EvOps.call rfl (by simp [hl]) (by simp [hl] <;> exact rfl) (by simp <;> exact rfl) i13 ?_
        by_cases hj : J < 0
        · refine EvOps.take 5 ?_
          apply EvOps.run
          · intro call; simp [hl, h2, rs, hj]; exact rfl
          refine EvOps.call rfl (by simp [hl]) (by simp [hl] <;> exact rfl) (by simp <;> exact rfl) i10 ?_
          apply EvOps.run
          · intro call; simp [hl]; exact rfl
          exact Ev.ret ⟨.bool (decide (J' < 0)), by simp [Try.f80, hl], by rw [hres]; simp [hj]⟩
        · apply EvOps.run
          · intro call; simp [hl, hj]; exact rfl
          exact Ev.ret ⟨.bool false, by simp [Try.f80, hl], by rw [hres]; simp [hj]⟩
    refine Ev.seq (Ev.region ?_)
    apply EvOps.run
    · intro call; simp [hl, h6]; exact rfl
    refine Ev.cond (k == 2) (by simp [hl]) (fun h => ?_) (fun c2 => ?_)
    · simp only [beq_iff_eq] at h
      subst h
      have hb := bare_ok 2 s n l false true false
      refine Ev.seq (Ev.region (EvOps.take 1 ?_))
      apply EvOps.run
      · intro call; simp [hl, h2, rs]; exact rfl
      refine EvOps.call rfl (by simp) (by simp [hl] <;> exact rfl) (by simp [aR] <;> exact rfl) hb ?_
      apply EvOps.run
      · intro call; simp [hl]; exact rfl
      exact Ev.ret ⟨_, by simp [Try.f80, hl]; rfl, by simp [rightP]⟩
    refine Ev.seq (Ev.region ?_)
    apply EvOps.run
    · intro call; simp [hl, h6]; exact rfl
    refine Ev.cond (k == 3) (by simp [hl]) (fun h => ?_) (fun c3 => ?_)
    · simp only [beq_iff_eq] at h
      subst h
      have hb := bare_ok 3 s n l true false false
      refine Ev.seq (Ev.region (EvOps.take 1 ?_))
      apply EvOps.run
      · intro call; simp [hl, h2, rs]; exact rfl
      refine EvOps.call rfl (by simp) (by simp [hl] <;> exact rfl) (by simp [aR] <;> exact rfl) hb ?_
      apply EvOps.run
      · intro call; simp [hl]; exact rfl
      exact Ev.ret ⟨_, by simp [Try.f80, hl]; rfl, by simp [rightP]⟩
    refine Ev.seq (Ev.region ?_)
    apply EvOps.run
    · intro call; simp [hl, h6]; exact rfl
    refine Ev.cond (k == 4) (by simp [hl]) (fun h => ?_) (fun c4 => ?_)
    · simp only [beq_iff_eq] at h
      subst h
      have hb := bare_ok 4 s n l false false false
      refine Ev.seq (Ev.region (EvOps.take 1 ?_))
      apply EvOps.run
      · intro call; simp [hl, h2, rs]; exact rfl
      refine EvOps.call rfl (by simp) (by simp [hl] <;> exact rfl) (by simp [aR] <;> exact rfl) hb ?_
      apply EvOps.run
      · intro call; simp [hl]; exact rfl
      exact Ev.ret ⟨_, by simp [Try.f80, hl]; rfl, by simp [rightP]⟩
    refine Ev.seq (Ev.region ?_)
    apply EvOps.run
    · intro call; simp [hl, h6]; exact rfl
    refine Ev.cond (k == 5) (by simp [hl]) (fun h => ?_) (fun c5 => Ev.skip ?_)
    · simp only [beq_iff_eq] at h
      subst h
      have hres : rightP d 5 s n l = ((d != 0 && (s == [] && n == 0)) && rightRs (d - 1) l) := by simp [rightP]
      have hb := bare_ok 5 s n l false false true
      simp only [Bool.true_or, Bool.false_or, Bool.and_true] at hb
      generalize (s == [] && n == 0) = B at hb hres
      cases d with
      | zero =>
        refine Ev.seq (Ev.region ?_)
        apply EvOps.run
        · intro call; simp [hl, h3]; exact rfl
        exact Ev.ret ⟨.bool false, by simp [Try.f80, hl], by rw [hres]; simp⟩
      | succ d =>
        refine Ev.seq (Ev.region (EvOps.take 4 ?_))
        apply EvOps.run
        · intro call; simp [hl, h2, h3, rs]; exact rfl
        refine EvOps.call rfl (by simp [hl]) (by simp [hl] <;> exact rfl) (by simp [aR] <;> exact rfl) hb ?_
        cases B with
        | false =>
          apply EvOps.run
          · intro call; simp [hl]; exact rfl
          exact Ev.ret ⟨.bool false, by simp [Try.f80, hl], by rw [hres]; simp⟩
        | true =>
          refine EvOps.take 5 ?_
          apply EvOps.run
          · intro call; simp [hl, h2, h3]; exact rfl
          refine EvOps.calli (first := []) (captured := []) (vs := [rs l, .func (.func 100) [] [.ptr 1 0]]) rfl (by simp) (by simp [hl]) (by simp [hl, rs]) (contf_ok (d + 1) 1 _ (by simp) hd l (by omega) (ih (by omega))) ?_
          rintro _ _ _ ⟨rfl, rfl, rfl⟩
          apply EvOps.run
          · intro call; simp [hl]; exact rfl
          exact Ev.ret ⟨.bool (rightRs d l), by simp [Try.f80, hl], by rw [hres]; simp⟩
    · refine Ev.seq (Ev.region ?_)
      apply EvOps.run
      · intro call; simp [hl]; exact rfl
      refine Ev.ret ⟨.bool false, by simp [Try.f80, hl], ?_⟩
      simp only [Bool.or_eq_false_iff, beq_eq_false_iff_ne, ne_eq] at h01 c2 c3 c4 c5
      simp [rightP, h01.1, h01.2, c2, c3, c4, c5]
termination_by d r => SizeOf.sizeOf r
theorem right4_ok (r : R) (hsm : smR r) : Ret cfg 62 [aR r] (.bool (rightR 4 r)) := by
  have hr := right_ok 4 r (by omega) hsm
  obtain ⟨k, s, n, l⟩ := r
  refine Ret.of_body rfl rfl Try.func62 rfl (by simp) (by simp) ?_
  refine Ev.seq (Ev.region ?_)
  apply EvOps.run
  · intro call; simp [Try.f62, aR]; exact rfl
  refine Ev.seq (Ev.region (EvOps.take 1 ?_))
  apply EvOps.run
  · intro call; simp; exact rfl
  refine EvOps.call rfl (by simp) (by simp <;> exact rfl) (by simp [aR] <;> exact rfl) hr ?_
  apply EvOps.run
  · intro call; simp; exact rfl
  exact Ev.ret ⟨_, by simp [Try.f62]; rfl, by simp⟩
end Go.Proofs.Ytnifldbmflkmpaa
