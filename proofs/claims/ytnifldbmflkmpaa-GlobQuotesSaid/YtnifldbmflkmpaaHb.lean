/-
  pentimentoref04.Right: complete.
-/
import Derived.Test.YtnifldbmflkmpaaGi
namespace Go.Proofs.Ytnifldbmflkmpaa
open Go Ev
set_option linter.unusedVariables false
set_option linter.unusedSimpArgs false
set_option maxRecDepth 10000
mutual
/-- Nothing in it is too long, or no number of Go's. -/
def smR : R → Prop
  | .mk _ s n l => s.length ≤ 2000 ∧ l.length < 100000 ∧ (-(2 ^ 63) ≤ n ∧ n < 2 ^ 63) ∧ smRs l
def smRs : List R → Prop
  | [] => True
  | r :: l => smR r ∧ smRs l
end
theorem smRs_get : ∀ {l : List R} (i : Nat) (h : i < l.length), smRs l → smR l[i]
  | r :: l, 0, _, h => by simp only [smRs] at h; exact h.1
  | r :: l, i + 1, hi, h => by simp only [smRs] at h; exact smRs_get i (by simpa using hi) h.2
mutual
theorem okR_sm : ∀ r : R, smR r → okR r
  | .mk k s n l, h => by simp only [smR] at h; simp only [okR]; exact ⟨by omega, okRs_sm l h.2.2.2⟩
theorem okRs_sm : ∀ l : List R, smRs l → okRs l
  | [], _ => by simp only [okRs]
  | r :: l, h => by simp only [smRs] at h; simp only [okRs]; exact ⟨okR_sm r h.1, okRs_sm l h.2⟩
end
theorem byte_eq (b c : UInt8) : ((b.toNat : Int) == (c.toNat : Int)) = (b == c) := by
  rw [Bool.eq_iff_iff, beq_iff_eq, beq_iff_eq]
  constructor
  · intro h; exact UInt8.toNat_inj.1 (by omega)
  · intro h; rw [h]
theorem lineS_take (s : S) (i : Nat) (h : i < s.length) : lineS (s.take (i + 1)) = (lineS (s.take i) && (s[i] != 13 && s[i] != 10)) := by
  rw [List.take_add_one, List.getElem?_eq_getElem h]
  simp only [lineS, List.all_append, Option.toList, List.all_cons, List.all_nil, Bool.and_true]
theorem rightRs_take (d : Nat) (l : List R) (i : Nat) (h : i < l.length) : rightRs d (l.drop i) = (rightR d l[i] && rightRs d (l.drop (i + 1))) := by
  rw [List.drop_eq_getElem_cons h]; simp only [rightRs]
set_option maxHeartbeats 8000000 in
theorem refRight_ok : ∀ (d : Nat) (r : R), d < 2 ^ 60 → smR r → Ret cfg 26 [aR r, .int .i64 (d : Nat)] (.bool (rightR d r))
  | d, .mk k s n l, hd, hsm => by
    simp only [smR] at hsm
    obtain ⟨hs2, hl2, _, hsm⟩ := hsm
    have ih : ∀ (i : Nat) (h : i < l.length), Ret cfg 26 [aR l[i], .int .i64 ((d - 1 : Nat) : Int)] (.bool (rightR (d - 1) l[i])) := fun i h =>
      have := elem_size h
      refRight_ok (d - 1) l[i] (by omega) (smRs_get i h hsm)
    refine Ret.of_body rfl rfl Try.func26 rfl (by simp) (by simp) ?_
    refine Ev.seq (Ev.region ?_)
    apply EvOps.keep (h' := [.cells [.int .i64 k, .str s, .int .i64 n, rs l]]) (d' := false) (fun fr => fr.length = 103 ∧ slotAt fr 2 = some (.ptr 0 0) ∧ slotAt fr 1 = some (.int .i64 (d : Nat)))
    · intro call; simp [Try.f26, aR, rs]; exact rfl
    · exact ⟨by simp, by simp, by simp⟩
    rintro fr ⟨hl, h2, h1⟩
    refine Ev.seq (Ev.mid (fun st => ∃ fr : List AV, st = ⟨fr, [.cells [.int .i64 k, .str s, .int .i64 n, rs l]], false⟩ ∧ fr.length = 103 ∧ slotAt fr 2 = some (.ptr 0 0) ∧ slotAt fr 1 = some (.int .i64 (d : Nat)) ∧ slotAt fr 55 = some (.bool (badHead k s n l))) ?_ ?_)
    · exact head_run k s n l d fr hl h2 h1 _ (fun fr a b c e => ⟨fr, rfl, a, b, c, e⟩)
    clear hl h2 h1 fr
    rintro _ ⟨fr, rfl, hl, h2, h1, h55⟩
    refine Ev.cond (badHead k s n l) (by simp [h55]) (fun hb => ?_) (fun hb => Ev.skip ?_)
    · refine Ev.seq (Ev.region ?_)
      apply EvOps.run
      · intro call; simp [hl]; exact rfl
      exact Ev.ret ⟨.bool false, by simp [Try.f26, hl], by simp [rightR, hb]⟩
    refine Ev.seq (Ev.mid (fun st => ∃ fr : List AV, st = ⟨fr, [.cells [.int .i64 k, .str s, .int .i64 n, rs l]], false⟩ ∧ fr.length = 103 ∧ slotAt fr 2 = some (.ptr 0 0) ∧ slotAt fr 1 = some (.int .i64 (d : Nat)) ∧ slotAt fr 5 = some (.int .i64 0)) ?_ ?_)
    · refine Ev.region ?_
      apply EvOps.run
      · intro call; simp [hl]; exact rfl
      exact ⟨_, rfl, by simp [hl], by simp [h2], by simp [h1], by simp [hl]⟩
    clear hl h2 h1 fr h55
    rintro _ ⟨fr, rfl, hl, h2, h1, h5⟩
    refine Ev.block ?_
    refine Ev.loop (fun m st => ∃ fr i, st = ⟨fr, [.cells [.int .i64 k, .str s, .int .i64 n, rs l]], false⟩ ∧ fr.length = 103 ∧ slotAt fr 2 = some (.ptr 0 0) ∧ slotAt fr 1 = some (.int .i64 (d : Nat)) ∧ slotAt fr 5 = some (.int .i64 (i : Nat)) ∧ i ≤ s.length ∧ m = s.length - i ∧ lineS (s.take i) = true) ?_ s.length _ ?_
    · clear hl h2 h1 fr h5
      rintro m st ⟨fr, i, rfl, hl, h2, h1, h5, hi, rfl, hline⟩
      -- behind the loop
      have nxt : ∀ fr : List AV, fr.length = 103 → slotAt fr 2 = some (.ptr 0 0) → slotAt fr 1 = some (.int .i64 (d : Nat)) → (decide (2 ≤ k) || lineS s) = true →
          Ev cfg 0 ((Try.f26.body.get rfl) |> fun c => match c with | .seq _ (.seq _ (.seq _ c)) => c | _ => .skip) ⟨fr, [.cells [.int .i64 k, .str s, .int .i64 n, rs l]], false⟩ (Done cfg Try.f26 (.bool (rightR d (.mk k s n l)))) := by
        intro fr hl h2 h1 hln
        have hres : rightR d (.mk k s n l) = ((k != 5 || d != 0) && rightRs (d - 1) l) := by simp only [rightR, hb, hln, Bool.not_false, Bool.true_and]
        refine Ev.seq (Ev.mid (fun st => ∃ fr : List AV, st = ⟨fr, [.cells [.int .i64 k, .str s, .int .i64 n, rs l]], false⟩ ∧ fr.length = 103 ∧ slotAt fr 2 = some (.ptr 0 0) ∧ slotAt fr 1 = some (.int .i64 (d : Nat)) ∧ slotAt fr 86 = some (.bool (!(k != 5 || d != 0)))) ?_ ?_)
        · refine Ev.region ?_
          cases e5 : (k == 5) with
          | false =>
            apply EvOps.run
            · intro call; simp [hl, h2, h1, e5]; exact rfl
            exact ⟨_, rfl, by simp [hl], by simp [h2], by simp [h1], by simp [hl, bne, e5]⟩
          | true =>
            cases d with
            | zero =>
              apply EvOps.run
              · intro call; simp [hl, h2, h1, e5]; exact rfl
              exact ⟨_, rfl, by simp [hl], by simp [h2], by simp [h1], by simp [hl, bne, e5]⟩
            | succ d =>
              apply EvOps.run
              · intro call; simp [hl, h2, h1, e5]; exact rfl
              exact ⟨_, rfl, by simp [hl], by simp [h2], by simp [h1], by simp [hl, bne, e5]⟩
        clear hl h2 h1 fr
        rintro _ ⟨fr, rfl, hl, h2, h1, h86⟩
        refine Ev.cond (!(k != 5 || d != 0)) (by simp only [op_tmp, h86]) (fun hz => ?_) (fun hz => Ev.skip ?_)
        · refine Ev.seq (Ev.region ?_)
          apply EvOps.run
          · intro call; simp [hl]; exact rfl
          refine Ev.ret ⟨.bool false, by simp [Try.f26, hl], ?_⟩
          rw [Bool.not_eq_true'] at hz
          rw [hres, hz, Bool.false_and, strip_bool]
        rw [Bool.not_eq_false'] at hz
        rw [hz, Bool.true_and] at hres
        refine Ev.seq (Ev.mid (fun st => ∃ fr : List AV, st = ⟨fr, [.cells [.int .i64 k, .str s, .int .i64 n, rs l]], false⟩ ∧ fr.length = 103 ∧ slotAt fr 2 = some (.ptr 0 0) ∧ slotAt fr 1 = some (.int .i64 (d : Nat)) ∧ slotAt fr 6 = some (.int .i64 0)) ?_ ?_)
        · refine Ev.region ?_
          apply EvOps.run
          · intro call; simp [hl]; exact rfl
          exact ⟨_, rfl, by simp [hl], by simp [h2], by simp [h1], by simp [hl]⟩
        clear hl h2 h1 fr h86
        rintro _ ⟨fr, rfl, hl, h2, h1, h6⟩
        refine Ev.block ?_
        refine Ev.loop (fun m st => ∃ fr i, st = ⟨fr, [.cells [.int .i64 k, .str s, .int .i64 n, rs l]], false⟩ ∧ fr.length = 103 ∧ slotAt fr 2 = some (.ptr 0 0) ∧ slotAt fr 1 = some (.int .i64 (d : Nat)) ∧ slotAt fr 6 = some (.int .i64 (i : Nat)) ∧ i ≤ l.length ∧ m = l.length - i ∧ rightRs (d - 1) l = rightRs (d - 1) (l.drop i)) ?_ l.length _ ?_
        · clear hl h2 h1 fr h6
          rintro m st ⟨fr, i, rfl, hl, h2, h1, h6, hi, rfl, hp⟩
          refine Ev.seq (Ev.seq (Ev.region ?_))
          apply EvOps.run
          · intro call; simp [hl, h2, h6, rs]; exact rfl
          refine Ev.cond (decide (i < l.length)) (by simp [hl]) (fun hc => Ev.skip ?_) (fun hc => Ev.exit ?_)
          · simp only [decide_eq_true_eq] at hc
            have hd0 : d ≠ 0 := by
              intro e
              subst e
              simp only [bne_self_eq_false, Bool.or_false] at hz
              simp only [badHead, hz, Bool.true_and, Bool.or_eq_false_iff, decide_eq_false_iff_not] at hb
              omega
            obtain ⟨cs, a1, a2, a3⟩ := aR_agg l[i]
            have ih := ih i hc
            rw [a1] at ih
            refine Ev.seq (Ev.block (Ev.seq (Ev.region (EvOps.take 7 ?_))))
            apply EvOps.run
            · intro call; simp [hl, h1, h2, h6, rs, hc, a1, a2, wrap_int ((d : Int) - 1) (by omega) (by omega)]; exact rfl
            refine EvOps.call rfl (by simp) (by simp [hl] <;> exact rfl) (by simp [a3]; omega) ih ?_
            apply EvOps.run
            · intro call; simp [hl]; exact rfl
            refine Ev.cond (!(rightR (d - 1) l[i])) (by simp [hl]) (fun he => ?_) (fun he => Ev.skip ?_)
            · refine Ev.seq (Ev.region ?_)
              apply EvOps.run
              · intro call; simp [hl]; exact rfl
              refine Ev.ret ⟨.bool false, by simp [Try.f26, hl], ?_⟩
              simp only [Bool.not_eq_true'] at he
              rw [hres, hp, rightRs_take _ _ _ hc, he, Bool.false_and, strip_bool]
            · refine Ev.region ?_
              apply EvOps.run
              · intro call; simp [hl, h6, wrap_succ i (by omega)]; exact rfl
              simp only [Bool.not_eq_false'] at he
              exact ⟨l.length - (i + 1), by omega, _, i + 1, rfl, by simp [hl], by simp [h2], by simp [h1], by simp [hl], by omega, rfl, by rw [hp, rightRs_take _ _ _ hc, he, Bool.true_and]⟩
          · simp only [decide_eq_false_iff_not] at hc
            refine Ev.seq (Ev.region ?_)
            apply EvOps.run
            · intro call; simp [hl]; exact rfl
            refine Ev.ret ⟨.bool true, by simp [Try.f26, hl], ?_⟩
            rw [hres, hp, List.drop_of_length_le (by omega)]
            simp [rightRs]
        · exact ⟨fr, 0, rfl, hl, h2, h1, h6, by omega, rfl, by simp⟩
      by_cases c1 : i < s.length
      · by_cases c2 : k < 2
        · refine Ev.seq (Ev.seq (Ev.region ?_))
          apply EvOps.run
          · intro call; simp [hl, h2, h5, c1, c2]; exact rfl
          refine Ev.cond true (by simp [hl]) (fun _ => Ev.skip ?_) (fun h => by simp at h)
          have hg : s[i]? = some s[i] := List.getElem?_eq_getElem c1
          refine Ev.seq (Ev.block (Ev.mid (fun st => ∃ fr : List AV, st = ⟨fr, [.cells [.int .i64 k, .str s, .int .i64 n, rs l]], false⟩ ∧ fr.length = 103 ∧ slotAt fr 2 = some (.ptr 0 0) ∧ slotAt fr 1 = some (.int .i64 (d : Nat)) ∧ slotAt fr 5 = some (.int .i64 (i : Nat)) ∧ slotAt fr 79 = some (.bool (s[i] == 13 || s[i] == 10))) ?_ ?_))
          · refine Ev.region ?_
            have e13 := byte_eq s[i] 13
            have e10 := byte_eq s[i] 10
            simp only [show ((13 : UInt8).toNat : Int) = 13 from rfl, show ((10 : UInt8).toNat : Int) = 10 from rfl] at e13 e10
            cases b1 : (s[i] == 13) with
            | true =>
              rw [b1] at e13
              apply EvOps.run
              · intro call; simp [hl, h2, h5, hg, e13]; exact rfl
              exact ⟨_, rfl, by simp [hl], by simp [h2], by simp [h1], by simp [h5], by simp [hl]⟩
            | false =>
              rw [b1] at e13
              apply EvOps.run
              · intro call; simp [hl, h2, h5, hg, e13, e10]; exact rfl
              exact ⟨_, rfl, by simp [hl], by simp [h2], by simp [h1], by simp [h5], by simp [hl]⟩
          clear hl h2 h1 fr h5
          rintro _ ⟨fr, rfl, hl, h2, h1, h5, h79⟩
          refine Ev.cond (s[i] == 13 || s[i] == 10) (by simp only [op_tmp, h79]) (fun he => ?_) (fun he => Ev.skip ?_)
          · refine Ev.seq (Ev.region ?_)
            apply EvOps.run
            · intro call; simp [hl]; exact rfl
            refine Ev.ret ⟨.bool false, by simp [Try.f26, hl], ?_⟩
            have hbad : lineS s = false := by
              rw [Bool.eq_false_iff]
              intro hh
              rw [lineS, List.all_eq_true] at hh
              have := hh s[i] (List.getElem_mem c1)
              simp only [bne, Bool.and_eq_true, Bool.not_eq_true'] at this
              rw [this.1, this.2] at he
              simp at he
            simp [rightR, hbad, show ¬ 2 ≤ k by omega]
          · refine Ev.region ?_
            apply EvOps.run
            · intro call; simp [hl, h5, wrap_succ i (by omega)]; exact rfl
            refine ⟨s.length - (i + 1), by omega, _, i + 1, rfl, by simp [hl], by simp [h2], by simp [h1], by simp [hl], by omega, rfl, ?_⟩
            rw [Bool.or_eq_false_iff] at he
            rw [lineS_take s i c1, hline, bne, bne, he.1, he.2]
            rfl
        · refine Ev.seq (Ev.seq (Ev.region ?_))
          apply EvOps.run
          · intro call; simp [hl, h2, h5, c1, c2]; exact rfl
          refine Ev.cond false (by simp [hl]) (fun h => by simp at h) (fun _ => Ev.exit ?_)
          exact nxt _ (by simp [hl]) (by simp [h2]) (by simp [h1]) (by simp [show 2 ≤ k by omega])
      · refine Ev.seq (Ev.seq (Ev.region ?_))
        apply EvOps.run
        · intro call; simp [hl, h2, h5, c1]; exact rfl
        refine Ev.cond false (by simp [hl]) (fun h => by simp at h) (fun _ => Ev.exit ?_)
        rw [List.take_of_length_le (by omega)] at hline
        exact nxt _ (by simp [hl]) (by simp [h2]) (by simp [h1]) (by simp [hline])
    · exact ⟨fr, 0, rfl, hl, h2, h1, h5, by omega, rfl, by simp [lineS]⟩
termination_by d r => SizeOf.sizeOf r
end Go.Proofs.Ytnifldbmflkmpaa
