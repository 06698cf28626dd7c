/-
  Same: two replies, part by part.
-/
import Derived.Test.YtnifldbmflkmpaaGa
namespace Go.Proofs.Ytnifldbmflkmpaa
open Go Ev
set_option linter.unusedVariables false
set_option linter.unusedSimpArgs false
set_option maxRecDepth 10000
theorem sameRs_drop (l l' : List R) (i : Nat) (h : i < l.length) (h' : i < l'.length) : sameRs (l.drop i) (l'.drop i) = (sameR l[i] l'[i] && sameRs (l.drop (i + 1)) (l'.drop (i + 1))) := by
  rw [List.drop_eq_getElem_cons h, List.drop_eq_getElem_cons h']
  simp only [sameRs]
theorem sameRs_len : ∀ l l' : List R, l.length ≠ l'.length → sameRs l l' = false
  | [], [], h => by simp at h
  | [], _ :: _, _ => by simp only [sameRs]
  | _ :: _, [], _ => by simp only [sameRs]
  | a :: l, b :: l', h => by simp only [sameRs, sameRs_len l l' (by simpa using h), Bool.and_false]
mutual
/-- No list in it is too long. -/
def okR : R → Prop
  | .mk _ _ _ l => l.length < 2 ^ 60 ∧ okRs l
def okRs : List R → Prop
  | [] => True
  | r :: l => okR r ∧ okRs l
end
theorem okRs_get : ∀ {l : List R} (i : Nat) (h : i < l.length), okRs l → okR l[i]
  | r :: l, 0, _, h => by simp only [okRs] at h; exact h.1
  | r :: l, i + 1, hi, h => by simp only [okRs] at h; exact okRs_get i (by simpa using hi) h.2
theorem elem_size {l : List R} {i : Nat} (h : i < l.length) : SizeOf.sizeOf l[i] < SizeOf.sizeOf l := List.sizeOf_lt_of_mem (List.getElem_mem h)
set_option maxHeartbeats 1000000 in
theorem same_ok : ∀ (a b : R), okR a → Ret cfg 28 [aR a, aR b] (.bool (sameR a b))
  | .mk k s n l, .mk k' s' n' l', hok => by
    simp only [okR] at hok
    obtain ⟨hl60, hok⟩ := hok
    have ih : ∀ (i : Nat) (h : i < l.length) (b : R), Ret cfg 28 [aR l[i], aR b] (.bool (sameR l[i] b)) := fun i h b =>
      have := elem_size h
      same_ok l[i] b (okRs_get i h hok)
    refine Ret.of_body rfl rfl Try.func28 rfl (by simp) (by simp) ?_
    refine Ev.seq (Ev.region ?_)
    apply EvOps.keep (h' := [.cells [.int .i64 k, .str s, .int .i64 n, rs l], .cells [.int .i64 k', .str s', .int .i64 n', rs l']]) (d' := false) (fun fr => fr.length = 53 ∧ slotAt fr 2 = some (.ptr 0 0) ∧ slotAt fr 3 = some (.ptr 1 0) ∧ slotAt fr 4 = some (.bool false))
    · intro call; simp [Try.f28, aR, rs]; exact rfl
    · exact ⟨by simp, by simp, by simp, by simp⟩
    rintro fr ⟨hl, h2, h3, h4⟩
    have hbad : ∀ fr : List AV, fr.length = 53 → sameR (.mk k s n l) (.mk k' s' n' l') = false →
        Ev cfg 0 ((Try.f28.body.get rfl) |> fun c => match c with | .seq _ (.seq (.seq _ (.cond _ c _)) _) => c | _ => .skip) ⟨fr, [.cells [.int .i64 k, .str s, .int .i64 n, rs l], .cells [.int .i64 k', .str s', .int .i64 n', rs l']], false⟩
          (onNormal (fun _ => False) (Done cfg Try.f28 (.bool (sameR (.mk k s n l) (.mk k' s' n' l'))))) := by
      intro fr hl hf
      refine Ev.seq (Ev.region ?_)
      apply EvOps.run
      · intro call; simp [hl]; exact rfl
      refine Ev.ret ⟨_, by simp [Try.f28, hl]; rfl, ?_⟩
      rw [hf, strip_bool]
    refine Ev.seq (Ev.seq (Ev.region ?_))
    cases e1 : k != k' with
    | true =>
      apply EvOps.keep (h' := [.cells [.int .i64 k, .str s, .int .i64 n, rs l], .cells [.int .i64 k', .str s', .int .i64 n', rs l']]) (d' := false) (fun fr => fr.length = 53 ∧ slotAt fr 33 = some (.bool true))
      · intro call; simp [hl, h2, h3, rs, e1]; exact rfl
      · exact ⟨by simp [hl], by simp [hl]⟩
      rintro fr ⟨hl, h33⟩
      refine Ev.cond true (by simp [h33]) (fun _ => ?_) (fun h => by simp at h)
      refine (hbad fr hl (by simp only [bne_iff_ne, ne_eq] at e1; simp [sameR, e1])).mono ?_
      intro x s hs; cases x <;> simp only [onNormal] at hs ⊢ <;> first | exact hs | exact hs.elim
    | false =>
    cases e2 : s == s' with
    | false =>
      apply EvOps.keep (h' := [.cells [.int .i64 k, .str s, .int .i64 n, rs l], .cells [.int .i64 k', .str s', .int .i64 n', rs l']]) (d' := false) (fun fr => fr.length = 53 ∧ slotAt fr 33 = some (.bool true))
      · intro call; simp [hl, h2, h3, rs, e1, e2]; exact rfl
      · exact ⟨by simp [hl], by simp [hl]⟩
      rintro fr ⟨hl, h33⟩
      refine Ev.cond true (by simp [h33]) (fun _ => ?_) (fun h => by simp at h)
      refine (hbad fr hl (by simp [sameR, e2])).mono ?_
      intro x s hs; cases x <;> simp only [onNormal] at hs ⊢ <;> first | exact hs | exact hs.elim
    | true =>
    cases e3 : n != n' with
    | true =>
      apply EvOps.keep (h' := [.cells [.int .i64 k, .str s, .int .i64 n, rs l], .cells [.int .i64 k', .str s', .int .i64 n', rs l']]) (d' := false) (fun fr => fr.length = 53 ∧ slotAt fr 33 = some (.bool true))
      · intro call; simp [hl, h2, h3, rs, e1, e2, e3]; exact rfl
      · exact ⟨by simp [hl], by simp [hl]⟩
      rintro fr ⟨hl, h33⟩
      refine Ev.cond true (by simp [h33]) (fun _ => ?_) (fun h => by simp at h)
      refine (hbad fr hl (by simp only [bne_iff_ne, ne_eq] at e3; simp [sameR, e3])).mono ?_
      intro x s hs; cases x <;> simp only [onNormal] at hs ⊢ <;> first | exact hs | exact hs.elim
    | false =>
    cases e4 : ((l.length : Int) != (l'.length : Int)) with
    | true =>
      apply EvOps.keep (h' := [.cells [.int .i64 k, .str s, .int .i64 n, rs l], .cells [.int .i64 k', .str s', .int .i64 n', rs l']]) (d' := false) (fun fr => fr.length = 53 ∧ slotAt fr 33 = some (.bool true))
      · intro call; simp [hl, h2, h3, rs, e1, e2, e3, e4]; exact rfl
      · exact ⟨by simp [hl], by simp [hl]⟩
      rintro fr ⟨hl, h33⟩
      refine Ev.cond true (by simp [h33]) (fun _ => ?_) (fun h => by simp at h)
      refine (hbad fr hl (by simp only [bne_iff_ne, ne_eq] at e4; simp [sameR, sameRs_len l l' (by omega)])).mono ?_
      intro x s hs; cases x <;> simp only [onNormal] at hs ⊢ <;> first | exact hs | exact hs.elim
    | false =>
    have hlen : l.length = l'.length := by simp at e4; omega
    have hsame : sameR (.mk k s n l) (.mk k' s' n' l') = sameRs l l' := by
      simp only [bne_eq_false_iff_eq] at e1 e3
      simp [sameR, e1, e3, e2]
    apply EvOps.keep (h' := [.cells [.int .i64 k, .str s, .int .i64 n, rs l], .cells [.int .i64 k', .str s', .int .i64 n', rs l']]) (d' := false) (fun fr => fr.length = 53 ∧ slotAt fr 2 = some (.ptr 0 0) ∧ slotAt fr 3 = some (.ptr 1 0) ∧ slotAt fr 33 = some (.bool false))
    · intro call; simp [hl, h2, h3, rs, e1, e2, e3, e4]; exact rfl
    · exact ⟨by simp [hl], by simp [h2], by simp [h3], by simp [hl]⟩
    clear hl h2 h3 h4 fr
    rintro fr ⟨hl, h2, h3, h33⟩
    refine Ev.cond false (by simp [h33]) (fun h => by simp at h) (fun _ => Ev.skip ?_)
    refine Ev.seq (Ev.seq (Ev.region ?_))
    apply EvOps.run
    · intro call; simp; exact rfl
    refine Ev.block ?_
    refine Ev.loop (fun m st => ∃ fr i, st = ⟨fr, [.cells [.int .i64 k, .str s, .int .i64 n, rs l], .cells [.int .i64 k', .str s', .int .i64 n', rs l']], false⟩ ∧ fr.length = 53 ∧ slotAt fr 2 = some (.ptr 0 0) ∧ slotAt fr 3 = some (.ptr 1 0) ∧ slotAt fr 5 = some (.int .i64 (i : Nat)) ∧ i ≤ l.length ∧ m = l.length - i ∧ sameRs l l' = sameRs (l.drop i) (l'.drop i)) ?_ l.length _ ?_
    · rintro m st ⟨fr, i, rfl, hl, h2, h3, h5, hi, rfl, hp⟩
      refine Ev.seq (Ev.seq (Ev.region ?_))
      apply EvOps.run
      · intro call; simp [hl, h2, h5, rs]; exact rfl
      refine Ev.cond (decide (i < l.length)) (by simp [hl]) (fun hc => Ev.skip ?_) (fun hc => Ev.exit ?_)
      · simp only [decide_eq_true_eq] at hc
        have hc' : i < l'.length := by omega
        have hstep := sameRs_drop l l' i hc hc'
        obtain ⟨c1, a1, a2, a3⟩ := aR_agg l[i]
        obtain ⟨c2, b1, b2, b3⟩ := aR_agg l'[i]
        have ih1 := ih i hc l'[i]
        rw [a1, b1] at ih1
        refine Ev.seq (Ev.block (Ev.seq (Ev.region (EvOps.take 10 ?_))))
        apply EvOps.run
        · intro call; simp [hl, h2, h3, h5, rs, hc, hc', a1, a2, b1, b2]; exact rfl
        refine EvOps.call rfl (by simp) (by simp [hl] <;> exact rfl) (by simp [a3, b3] <;> exact ⟨rfl, rfl⟩) ih1 ?_
        apply EvOps.run
        · intro call; simp [hl]; exact rfl
        refine Ev.cond (!(sameR l[i] l'[i])) (by simp [hl]) (fun he => ?_) (fun he => Ev.skip ?_)
        · refine Ev.seq (Ev.region ?_)
          apply EvOps.run
          · intro call; simp [hl]; exact rfl
          refine Ev.ret ⟨.bool false, by simp [Try.f28, hl], ?_⟩
          rw [hsame, hp, hstep]
          simp only [Bool.not_eq_true'] at he
          rw [he]; simp
        · refine Ev.region ?_
          apply EvOps.run
          · intro call; simp [hl, h5, wrap_succ i (by omega)]; exact rfl
          refine ⟨l.length - (i + 1), by omega, _, i + 1, rfl, by simp [hl], by simp [h2], by simp [h3], by simp [hl], by omega, rfl, ?_⟩
          simp only [Bool.not_eq_false'] at he
          rw [hp, hstep, he, Bool.true_and]
      · simp only [decide_eq_false_iff_not] at hc
        refine Ev.seq (Ev.region ?_)
        apply EvOps.run
        · intro call; simp [hl]; exact rfl
        refine Ev.ret ⟨.bool true, by simp [Try.f28, hl], ?_⟩
        rw [hsame, hp, List.drop_of_length_le (by omega), List.drop_of_length_le (by omega)]
        simp [sameRs]
    · exact ⟨_, 0, rfl, by simp [hl], by simp [h2], by simp [h3], by simp [hl], by omega, rfl, by simp⟩
termination_by a => SizeOf.sizeOf a
end Go.Proofs.Ytnifldbmflkmpaa
