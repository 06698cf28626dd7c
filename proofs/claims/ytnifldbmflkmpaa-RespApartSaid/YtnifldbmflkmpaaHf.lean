/-
  resp.Write: all right replies, one behind the other.
-/
import Derived.Test.YtnifldbmflkmpaaHe
namespace Go.Proofs.Ytnifldbmflkmpaa
open Go Ev
set_option linter.unusedVariables false
set_option linter.unusedSimpArgs false
set_option maxRecDepth 10000
/-- What is written of replies. -/
def encAll (l : List R) : S := l.flatMap fun r => if rightR 4 r = true then encR r else []
theorem encAll_take (l : List R) (i : Nat) (h : i < l.length) : encAll (l.take (i + 1)) = encAll (l.take i) ++ (if rightR 4 l[i] = true then encR l[i] else []) := by
  rw [List.take_add_one, List.getElem?_eq_getElem h]
  simp only [encAll, Option.toList, List.flatMap_append, List.flatMap_cons, List.flatMap_nil, List.append_nil]
theorem encAll_len (l : List R) (i : Nat) (h : i < l.length) : (encAll (l.take (i + 1))).length ≤ (encAll l).length := by
  conv => rhs; rw [← List.take_append_drop (i + 1) l]
  simp only [encAll, List.flatMap_append, List.length_append]
  omega
set_option maxHeartbeats 2000000 in
theorem writeAll_ok (l : List R) (hl20 : l.length < 2 ^ 20) (hsm : ∀ r ∈ l, smR r) (hb : (encAll l).length ≤ 2 ^ 40) : Ret cfg 27 [rs l] (.L (ofBytes (encAll l))) := by
  refine Ret.of_body rfl rfl Try.func27 rfl (by simp) (by simp [cleanL_bytes]) ?_
  refine Ev.seq (Ev.region ?_)
  apply EvOps.run
  · intro call; simp [Try.f27]; exact rfl
  refine Ev.seq (Ev.region ?_)
  apply EvOps.run
  · intro call; simp; exact rfl
  refine Ev.seq (Ev.seq (Ev.region ?_))
  apply EvOps.run
  · intro call; simp [rs]; exact rfl
  refine Ev.block ?_
  refine Ev.loop (fun m st => ∃ fr hh x d i, st = ⟨fr, hh, d⟩ ∧ fr.length = 19 ∧ slotAt fr 6 = some (rs l) ∧ slotAt fr 7 = some (.int .i64 (l.length : Nat)) ∧ slotAt fr 8 = some (.int .i64 (i : Nat)) ∧ slotAt fr 3 = some x ∧ i ≤ l.length ∧ m = l.length - i ∧ Grow 1 hh x (ofBytes (encAll (l.take i)))) ?_ l.length _ ?_
  · rintro m st ⟨fr, hh, x, d, i, rfl, hl, h6, h7, h8, h3, hi, rfl, hg⟩
    refine Ev.seq (Ev.region ?_)
    apply EvOps.run
    · intro call; simp [hl, h7, h8]; exact rfl
    refine Ev.seq (Ev.cond (decide (i < l.length)) (by simp [hl]) (fun hc => Ev.skip ?_) (fun hc => Ev.exit ?_))
    · simp only [decide_eq_true_eq] at hc
      have hstep := encAll_take l i hc
      have hlen := encAll_len l i hc
      have hsi := hsm l[i] (List.getElem_mem hc)
      have hr := right4_ok l[i] hsi
      have hw := write_ok l[i] hsi
      obtain ⟨k1, s1, n1, l1, e1⟩ : ∃ k1 s1 n1 l1, l[i] = R.mk k1 s1 n1 l1 := by cases l[i] with | mk a b c e => exact ⟨a, b, c, e, rfl⟩
      rw [e1] at hr hw hstep
      refine Ev.seq (Ev.block (Ev.seq (Ev.region ?_)))
      apply EvOps.keep (h' := hh ++ [.cells [.int .i64 k1, .str s1, .int .i64 n1, rs l1]]) (d' := d) (fun fr => fr.length = 19 ∧ slotAt fr 6 = some (rs l) ∧ slotAt fr 7 = some (.int .i64 (l.length : Nat)) ∧ slotAt fr 8 = some (.int .i64 (i : Nat)) ∧ slotAt fr 3 = some x ∧ slotAt fr 5 = some (.ptr hh.length 0))
      · intro call; simp [hl, h6, h8, rs, hc, e1, aR, splice]; exact rfl
      · exact ⟨by simp [hl], by simp [h6], by simp [h7], by simp [h8], by simp [h3], by simp [hl]⟩
      clear hl h6 h7 h8 h3 fr
      rintro fr ⟨hl, h6, h7, h8, h3, h5⟩
      refine Ev.seq (Ev.region (EvOps.take 1 ?_))
      apply EvOps.run
      · intro call; simp [hl, h5, rs]; exact rfl
      refine EvOps.call rfl (by simp) (by simp [hl] <;> exact rfl) (by simp [aR] <;> exact rfl) hr ?_
      apply EvOps.run
      · intro call; simp; exact rfl
      refine Ev.cond (rightR 4 (.mk k1 s1 n1 l1)) (by simp [hl]) (fun he => ?_) (fun he => Ev.skip ?_)
      · rw [if_pos he] at hstep
        refine Ev.region (EvOps.take 2 ?_)
        apply EvOps.run
        · intro call; simp [hl, h3, h5, rs]; exact rfl
        refine EvOps.calli (first := []) (captured := []) (vs := [x, aR (.mk k1 s1 n1 l1)]) rfl (by simp) (by simp [hl]) (by simp [hl, aR]) (hw _ x (encAll (l.take i)) (hg.push _) (by rw [← List.length_append, ← hstep]; omega)) ?_
        rintro v h2 d2 ⟨g2, st2, t2⟩
        rw [← hstep] at g2
        apply EvOps.run
        · intro call; simp [hl]; exact rfl
        refine Ev.region ?_
        apply EvOps.run
        · intro call; simp [hl, h8, wrap_succ i (by omega)]; exact rfl
        exact ⟨l.length - (i + 1), by omega, _, h2, v, _, i + 1, rfl, by simp [hl], by simp [h6], by simp [h7], by simp [hl], by simp [hl], by omega, rfl, g2⟩
      · rw [he, if_neg (by simp), List.append_nil] at hstep
        refine Ev.region ?_
        apply EvOps.run
        · intro call; simp [hl, h8, wrap_succ i (by omega)]; exact rfl
        exact ⟨l.length - (i + 1), by omega, _, _, x, _, i + 1, rfl, by simp [hl], by simp [h6], by simp [h7], by simp [hl], by simp [h3], by omega, rfl, by rw [hstep]; exact hg.push _⟩
    · simp only [decide_eq_false_iff_not] at hc
      rw [List.take_of_length_le (by omega)] at hg
      refine Ev.seq (Ev.region ?_)
      apply EvOps.run
      · intro call; simp [hl, h3]; exact rfl
      exact Ev.ret ⟨x, by simp [Try.f27, hl], by rw [hg.strip, stripL_bytes]⟩
  · exact ⟨_, _, _, _, 0, rfl, by simp, by simp [rs], by simp [rs], by simp, by simp, by omega, rfl, Grow.nils _ _⟩
mutual
/-- Its numbers are Go's. -/
def wfR : R → Prop
  | .mk _ _ n l => (-(2 ^ 63) ≤ n ∧ n < 2 ^ 63) ∧ wfRs l
def wfRs : List R → Prop
  | [] => True
  | r :: l => wfR r ∧ wfRs l
end
mutual
theorem sm_of : ∀ (d : Nat) (r : R), wfR r → sizeN d r < 100000 → smR r ∧ (encR r).length ≤ 2100 * sizeN d r
  | 0, r, _, h => by simp only [sizeN] at h; omega
  | d + 1, .mk k s n l, hw, h => by
    simp only [wfR] at hw
    have hsz : ¬ 2000 < s.length := fun e => by simp only [sizeN, if_pos e] at h; omega
    have he : sizeN (d + 1) (.mk k s n l) = sizeNs d l 1 := by simp only [sizeN, if_neg hsz]
    rw [he] at h ⊢
    have h1 := (sizeNs_ge d l 1).2 h
    obtain ⟨h2, h3⟩ := sms_of d l 1 hw.2 h
    have d1 := dec_len n hw.1.1 hw.1.2
    have d2 := dec_len (s.length : Int) (by omega) (by omega)
    have d3 := dec_len (l.length : Int) (by omega) (by omega)
    refine ⟨by simp only [smR]; exact ⟨by omega, by omega, hw.1, h2⟩, ?_⟩
    simp only [encR]
    repeat' split
    all_goals simp only [List.length_cons, List.length_append, crlf, List.length_nil]; omega
theorem sms_of : ∀ (d : Nat) (l : List R) (n : Nat), wfRs l → sizeNs d l n < 100000 → smRs l ∧ (encRs l).length + 2100 * n ≤ 2100 * sizeNs d l n
  | d, [], n, _, h => by simp only [smRs, encRs, sizeNs, List.length_nil]; exact ⟨trivial, by omega⟩
  | d, r :: l, n, hw, h => by
    simp only [wfRs] at hw
    by_cases hn : n < 100000
    · simp only [sizeNs, if_pos hn] at h ⊢
      have h0 := (sizeNs_ge d l (n + sizeN d r)).1
      obtain ⟨h1, h2⟩ := sm_of d r hw.1 (by omega)
      obtain ⟨h3, h4⟩ := sms_of d l _ hw.2 h
      simp only [smRs, encRs, List.length_append]
      exact ⟨⟨h1, h3⟩, by omega⟩
    · simp only [sizeNs, if_neg hn] at h
      exact (hn h).elim
end
end Go.Proofs.Ytnifldbmflkmpaa
