/-
  set.Add, Del; the reference's Add; both Rights, of any list.
-/
import Derived.Test.YtnifldbmflkmpaaSa
import Derived.Test.YtnifldbmflkmpaaFg
namespace Go.Proofs.Ytnifldbmflkmpaa
open Go Ev
set_option linter.unusedVariables false
set_option linter.unusedSimpArgs false
set_option maxRecDepth 10000
theorem of_ok (ss : List S) (h : ss.length ≤ 1000) : Ret cfg 77 [strs ss] (strs (srt ss)) :=
  Ret.of_prim (p := ofA) rfl (by simp) (by simp only [ofA, strs, strsOf_map, Option.bind_some]; rw [if_pos h]) (by simp)
theorem addL_ok (s ys : List S) (hs : s.length ≤ 200) (hy : ys.length ≤ 200) (hl : anyLong ys = true) : Ret cfg 48 [strs s, strs ys] (.tuple [strs [], .int .i64 0, .int .i64 12]) := by
  have hc := conLong_ok ys (by omega)
  rw [hl] at hc
  refine Ret.of_body rfl rfl Try.func48 rfl (by simp) (by simp) ?_
  refine Ev.seq (Ev.region ?_)
  apply EvOps.run
  · intro call; simp [Try.f48]; exact rfl
  refine Ev.seq (Ev.seq (Ev.region (EvOps.take 1 ?_)))
  apply EvOps.run
  · intro call; simp; exact rfl
  refine EvOps.call rfl (by simp) (by simp <;> exact rfl) (by simp <;> exact ⟨rfl, rfl⟩) hc ?_
  apply EvOps.run
  · intro call; simp; exact rfl
  refine Ev.cond true (by simp) (fun _ => ?_) (fun h => by simp at h)
  refine Ev.seq (Ev.region ?_)
  apply EvOps.run
  · intro call; simp; exact rfl
  exact Ev.ret ⟨.tuple [.nils, .int .i64 0, .int .i64 12], by simp [Try.f48], by simp [strs]⟩
theorem add_ok (s ys : List S) (hs : s.length ≤ 200) (hy : ys.length ≤ 200) (hl : anyLong ys = false) : Ret cfg 48 [strs s, strs ys] (.tuple [strs (mergeS orB s (srt ys)), .int .i64 (((mergeS orB s (srt ys)).length : Int) - (s.length : Int)), .int .i64 0]) := by
  have hc := conLong_ok ys (by omega)
  rw [hl] at hc
  have hsl := srt_length ys
  have hm := merge_ok 57 orB (fun a b => either_ok a b) s (srt ys) (by omega)
  have hml := mergeS_length orB s (srt ys)
  refine Ret.of_body rfl rfl Try.func48 rfl (by simp) (by simp) ?_
  refine Ev.seq (Ev.region ?_)
  apply EvOps.run
  · intro call; simp [Try.f48]; exact rfl
  refine Ev.seq (Ev.seq (Ev.region (EvOps.take 1 ?_)))
  apply EvOps.run
  · intro call; simp; exact rfl
  refine EvOps.call rfl (by simp) (by simp <;> exact rfl) (by simp <;> exact ⟨rfl, rfl⟩) hc ?_
  apply EvOps.run
  · intro call; simp; exact rfl
  refine Ev.cond false (by simp) (fun h => by simp at h) (fun _ => Ev.skip ?_)
  refine Ev.seq (Ev.region (EvOps.take 2 ?_))
  apply EvOps.run
  · intro call; simp; exact rfl
  refine EvOps.call rfl (by simp) (by simp <;> exact rfl) (by simp <;> exact rfl) (of_ok ys (by omega)) ?_
  refine EvOps.call rfl (by simp) (by simp <;> exact rfl) (by simp <;> exact ⟨rfl, rfl⟩) hm ?_
  generalize mergeS orB s (srt ys) = out at hml
  apply EvOps.run
  · intro call; simp; exact rfl
  refine Ev.seq (Ev.seq (Ev.region ?_))
  apply EvOps.run
  · intro call; simp [strs, show ¬ (512 : Int) < (out.length : Int) by omega]; exact rfl
  refine Ev.cond false (by simp) (fun h => by simp at h) (fun _ => Ev.skip ?_)
  refine Ev.seq (Ev.region ?_)
  apply EvOps.run
  · intro call; simp [strs, wrap_int ((out.length : Int) - (s.length : Int)) (by omega) (by omega)]; exact rfl
  exact Ev.ret ⟨.tuple [strs out, .int .i64 ((out.length : Int) - (s.length : Int)), .int .i64 0], by simp [Try.f48, strs], by simp⟩
theorem del_ok (s ys : List S) (hs : s.length ≤ 200) (hy : ys.length ≤ 200) : Ret cfg 50 [strs s, strs ys] (.tuple [strs (mergeS notB s (srt ys)), .int .i64 ((s.length : Int) - ((mergeS notB s (srt ys)).length : Int))]) := by
  have hsl := srt_length ys
  have hm := merge_ok 60 notB (fun a b => first_ok a b) s (srt ys) (by omega)
  have hml := mergeS_length notB s (srt ys)
  refine Ret.of_body rfl rfl Try.func50 rfl (by simp) (by simp) ?_
  refine Ev.seq (Ev.region ?_)
  apply EvOps.run
  · intro call; simp [Try.f50]; exact rfl
  refine Ev.seq (Ev.region (EvOps.take 2 ?_))
  apply EvOps.run
  · intro call; simp; exact rfl
  refine EvOps.call rfl (by simp) (by simp <;> exact rfl) (by simp <;> exact rfl) (of_ok ys (by omega)) ?_
  refine EvOps.call rfl (by simp) (by simp <;> exact rfl) (by simp <;> exact ⟨rfl, rfl⟩) hm ?_
  generalize mergeS notB s (srt ys) = out at hml
  apply EvOps.run
  · intro call; simp; exact rfl
  refine Ev.seq (Ev.region ?_)
  apply EvOps.run
  · intro call; simp [strs, wrap_int ((s.length : Int) - (out.length : Int)) (by omega) (by omega)]; exact rfl
  exact Ev.ret ⟨.tuple [strs out, .int .i64 ((s.length : Int) - (out.length : Int))], by simp [Try.f50, strs], by simp⟩
theorem anyLong_drop (ys : List S) (i : Nat) (h : i < ys.length) : (ys.drop i).any (fun s => decide (4096 < s.length)) = (decide (4096 < (ys[i]).length) || (ys.drop (i + 1)).any (fun s => decide (4096 < s.length))) := any_drop_cons _ ys i h
theorem putAll_take (s : List S) (ys : List S) (i : Nat) (h : i < ys.length) : putAll s (ys.take (i + 1)) = putS (putAll s (ys.take i)) ys[i] := by
  rw [List.take_add_one, List.getElem?_eq_getElem h]
  simp only [putAll, Option.toList, List.foldl_append, List.foldl_cons, List.foldl_nil]
set_option maxHeartbeats 2000000 in
theorem refAdd_ok (s ys : List S) (hs : s.length ≤ 200) (hy : ys.length ≤ 200) (hsl : ∀ x ∈ s, x.length ≤ 5000) (hyl : ∀ x ∈ ys, x.length ≤ 5000) :
    Ret cfg 49 [strs s, strs ys] (if anyLong ys then .tuple [strs [], .int .i64 0, .int .i64 12] else .tuple [strs (putAll s ys), .int .i64 (((putAll s ys).length : Int) - (s.length : Int)), .int .i64 0]) := by
  have hpl := putAll_length ys s
  refine Ret.of_body rfl rfl Try.func49 rfl (by simp) (by split <;> simp) ?_
  refine Ev.seq (Ev.region ?_)
  apply EvOps.run
  · intro call; simp [Try.f49]; exact rfl
  refine Ev.seq (Ev.region ?_)
  apply EvOps.run
  · intro call; simp [strs]; exact rfl
  refine Ev.seq (Ev.seq (Ev.region ?_))
  apply EvOps.run
  · intro call; simp; exact rfl
  refine Ev.block ?_
  refine Ev.loop (fun m st => ∃ (fr : List AV) (i : Nat), st = ⟨fr, [], false⟩ ∧ fr.length = 44 ∧ slotAt fr 0 = some (strs s) ∧ slotAt fr 1 = some (strs ys) ∧ slotAt fr 7 = some (.int .i64 (s.length : Nat)) ∧ slotAt fr 8 = some (.int .i64 (i : Nat)) ∧ i ≤ ys.length ∧ m = ys.length - i ∧ anyLong ys = (ys.drop i).any (fun s => decide (4096 < s.length))) ?_ ys.length _ ?_
  · rintro m st ⟨fr, i, rfl, hl, h0, h1, h7, h8, hi, rfl, hp⟩
    refine Ev.seq (Ev.seq (Ev.region ?_))
    apply EvOps.run
    · intro call; simp [hl, h1, h8, strs]; exact rfl
    refine Ev.cond (decide (i < ys.length)) (by simp [hl]) (fun hc => Ev.skip ?_) (fun hc => Ev.exit ?_)
    · simp only [decide_eq_true_eq] at hc
      rw [anyLong_drop ys i hc] at hp
      refine Ev.seq (Ev.block (Ev.seq (Ev.region ?_)))
      apply EvOps.run
      · intro call; simp [hl, h1, h8, strs, hc]; exact rfl
      refine Ev.cond (decide (4096 < (ys[i]).length)) (by simp [hl]; omega) (fun he => ?_) (fun he => Ev.skip ?_)
      · refine Ev.seq (Ev.region ?_)
        apply EvOps.run
        · intro call; simp [hl]; exact rfl
        refine Ev.ret ⟨.tuple [.nils, .int .i64 0, .int .i64 12], by simp [Try.f49, hl], ?_⟩
        rw [hp, he, Bool.true_or, if_pos rfl]
        simp [strs]
      · refine Ev.region ?_
        apply EvOps.run
        · intro call; simp [hl, h8, wrap_succ i (by omega)]; exact rfl
        exact ⟨ys.length - (i + 1), by omega, _, i + 1, rfl, by simp [hl], by simp [h0], by simp [h1], by simp [h7], by simp [hl], by omega, rfl, by rw [hp, he, Bool.false_or]⟩
    · simp only [decide_eq_false_iff_not] at hc
      rw [List.drop_of_length_le (by omega)] at hp
      have hnl : anyLong ys = false := by simpa using hp
      rw [hnl, if_neg (by simp)]
      refine Ev.seq (Ev.seq (Ev.region ?_))
      apply EvOps.run
      · intro call; simp [hl]; exact rfl
      refine Ev.block ?_
      refine Ev.loop (fun m st => ∃ (fr : List AV) (i : Nat), st = ⟨fr, [], false⟩ ∧ fr.length = 44 ∧ slotAt fr 0 = some (strs (putAll s (ys.take i))) ∧ slotAt fr 1 = some (strs ys) ∧ slotAt fr 7 = some (.int .i64 (s.length : Nat)) ∧ slotAt fr 9 = some (.int .i64 (i : Nat)) ∧ i ≤ ys.length ∧ m = ys.length - i) ?_ ys.length _ ?_
      · clear hl h0 h1 h7 h8 hc hi hp fr i
        rintro m st ⟨fr, i, rfl, hl, h0, h1, h7, h9, hi, rfl⟩
        refine Ev.seq (Ev.seq (Ev.region ?_))
        apply EvOps.run
        · intro call; simp [hl, h1, h9, strs]; exact rfl
        refine Ev.cond (decide (i < ys.length)) (by simp [hl]) (fun hc => Ev.skip ?_) (fun hc => Ev.exit ?_)
        · simp only [decide_eq_true_eq] at hc
          have hlen := putAll_length (ys.take i) s
          rw [List.length_take] at hlen
          have hput := put_ok (putAll s (ys.take i)) ys[i] (by omega) (fun x hx => by
            rcases (mem_putAll (ys.take i) s x).1 hx with h | h
            · have := hsl x h; omega
            · have := hyl x (List.mem_of_mem_take h); omega)
          rw [← putAll_take s ys i hc] at hput
          refine Ev.seq (Ev.block (Ev.region (EvOps.take 5 ?_)))
          apply EvOps.run
          · intro call; simp [hl, h0, h1, h9, strs, hc]; exact rfl
          refine EvOps.call rfl (by simp) (by simp [hl] <;> exact rfl) (by simp [strs] <;> exact ⟨rfl, rfl⟩) hput ?_
          apply EvOps.run
          · intro call; simp [hl]; exact rfl
          refine Ev.region ?_
          apply EvOps.run
          · intro call; simp [hl, h9, wrap_succ i (by omega)]; exact rfl
          exact ⟨ys.length - (i + 1), by omega, _, i + 1, rfl, by simp [hl], by simp [hl], by simp [h1], by simp [h7], by simp [hl], by omega, rfl⟩
        · simp only [decide_eq_false_iff_not] at hc
          rw [List.take_of_length_le (by omega)] at h0
          generalize putAll s ys = out at *
          refine Ev.seq (Ev.seq (Ev.region ?_))
          apply EvOps.run
          · intro call; simp [hl, h0, strs, show ¬ (512 : Int) < (out.length : Int) by omega]; exact rfl
          refine Ev.cond false (by simp [hl]) (fun h => by simp at h) (fun _ => Ev.skip ?_)
          refine Ev.seq (Ev.region ?_)
          apply EvOps.run
          · intro call; simp [hl, h0, h7, strs, wrap_int ((out.length : Int) - (s.length : Int)) (by omega) (by omega)]; exact rfl
          exact Ev.ret ⟨.tuple [strs out, .int .i64 ((out.length : Int) - (s.length : Int)), .int .i64 0], by simp [Try.f49, hl, strs], by simp⟩
      · exact ⟨_, 0, rfl, by simp [hl], by simp [h0, putAll], by simp [h1], by simp [h7], by simp [hl], by omega, rfl⟩
  · exact ⟨_, 0, rfl, by simp, by simp [strs], by simp [strs], by simp [strs], by simp, by omega, rfl, by simp [anyLong]⟩
/-- Is a set right, at a place? -/
def okAt (s : List S) (i : Nat) : Bool := !decide (4096 < (s.getD i []).length) && (i == 0 || Op.bytesLess (s.getD (i - 1) []) (s.getD i []))
def rightG (s : List S) : Bool := (List.range s.length).all (okAt s) && decide (s.length ≤ 512)
theorem rightG_no {s : List S} {i : Nat} (hi : i < s.length) (h : okAt s i = false) : rightG s = false := by
  unfold rightG
  have : (List.range s.length).all (okAt s) = false := by
    rw [List.all_eq_false]
    exact ⟨i, by simpa using hi, by simp [h]⟩
  rw [this, Bool.false_and]
theorem range_all_succ (p : Nat → Bool) (i : Nat) : (List.range (i + 1)).all p = ((List.range i).all p && p i) := by
  rw [List.range_succ, List.all_append]; simp
set_option maxHeartbeats 2000000 in
theorem rightG_ok (s : List S) (hb : s.length ≤ 1000) : Ret cfg 23 [strs s] (.bool (rightG s)) := by
  refine Ret.of_body rfl rfl Try.func23 rfl (by simp) (by simp) ?_
  refine Ev.seq (Ev.region ?_)
  apply EvOps.run
  · intro call; simp [Try.f23]; exact rfl
  refine Ev.seq (Ev.seq (Ev.region ?_))
  apply EvOps.run
  · intro call; simp [strs]; exact rfl
  refine Ev.block ?_
  refine Ev.loop (fun m st => ∃ (fr : List AV) (i : Nat), st = ⟨fr, [], false⟩ ∧ fr.length = 31 ∧ slotAt fr 0 = some (strs s) ∧ slotAt fr 5 = some (strs s) ∧ slotAt fr 6 = some (.int .i64 (s.length : Nat)) ∧ slotAt fr 7 = some (.int .i64 (i : Nat)) ∧ i ≤ s.length ∧ m = s.length - i ∧ (List.range i).all (okAt s) = true) ?_ s.length _ ?_
  · rintro m st ⟨fr, i, rfl, hl, h0, h5, h6, h7, hi, rfl, hok⟩
    refine Ev.seq (Ev.region ?_)
    apply EvOps.run
    · intro call; simp [hl, h6, h7]; exact rfl
    refine Ev.seq (Ev.cond (decide (i < s.length)) (by simp [hl]) (fun hc => Ev.skip ?_) (fun hc => Ev.exit ?_))
    · simp only [decide_eq_true_eq] at hc
      have hgi : s.getD i [] = s[i] := by simp [hc]
      refine Ev.seq (Ev.block (Ev.seq (Ev.region ?_)))
      apply EvOps.keep (h' := []) (d' := false) (fun fr => fr.length = 31 ∧ slotAt fr 0 = some (strs s) ∧ slotAt fr 5 = some (strs s) ∧ slotAt fr 6 = some (.int .i64 (s.length : Nat)) ∧ slotAt fr 7 = some (.int .i64 (i : Nat)) ∧ slotAt fr 3 = some (.int .i64 (i : Nat)) ∧ slotAt fr 4 = some (.str s[i]))
      · intro call; simp [hl, h5, h7, strs, hc]; exact rfl
      · exact ⟨by simp [hl], by simp [h0], by simp [h5], by simp [h6], by simp [h7], by simp [hl], by simp [hl]⟩
      clear hl h0 h5 h6 h7 fr
      rintro fr ⟨hl, h0, h5, h6, h7, h3, h4⟩
      refine Ev.mid (fun st => ∃ fr, st = ⟨fr, [], false⟩ ∧ fr.length = 31 ∧ slotAt fr 0 = some (strs s) ∧ slotAt fr 5 = some (strs s) ∧ slotAt fr 6 = some (.int .i64 (s.length : Nat)) ∧ slotAt fr 7 = some (.int .i64 (i : Nat)) ∧ slotAt fr 26 = some (.bool (!okAt s i))) ?_ ?_
      · refine Ev.region (EvOps.take 1 ?_)
        apply EvOps.run
        · intro call; simp [hl, h4]; exact rfl
        refine EvOps.call rfl (by simp [hl]) (by simp [hl] <;> exact rfl) (by simp <;> exact rfl) (long_ok s[i]) ?_
        cases hlo : decide (4096 < (s[i]).length) with
        | true =>
          apply EvOps.run
          · intro call; simp [hl]; exact rfl
          refine ⟨_, rfl, by simp [hl], by simp [h0], by simp [h5], by simp [h6], by simp [h7], ?_⟩
          simp only [okAt, hgi, hlo]
          simp [hl]
        | false =>
          cases i with
          | zero =>
            apply EvOps.run
            · intro call; simp [hl, h3]; exact rfl
            refine ⟨_, rfl, by simp [hl], by simp [h0], by simp [h5], by simp [h6], by simp [h7], ?_⟩
            simp only [okAt, hgi, hlo]
            simp [hl]
          | succ j =>
            have hgj : s.getD (j + 1 - 1) [] = s[j] := by simp [show j < s.length by omega]
            apply EvOps.run
            · intro call; simp [hl, h0, h3, h4, strs, wrap_int (j : Int) (by omega) (by omega), show j < s.length by omega]; exact rfl
            refine ⟨_, rfl, by simp [hl], by simp [h0, strs], by simp [h5, strs], by simp [h6], by simp [h7], ?_⟩
            simp only [okAt, hgi, hgj, hlo]
            simp [hl]
      clear hl h0 h5 h6 h7 h3 h4 fr
      rintro _ ⟨fr, rfl, hl, h0, h5, h6, h7, h26⟩
      refine Ev.cond (!okAt s i) (by simp only [op_tmp, h26]) (fun he => ?_) (fun he => Ev.skip ?_)
      · refine Ev.seq (Ev.region ?_)
        apply EvOps.run
        · intro call; simp [hl]; exact rfl
        rw [Bool.not_eq_true'] at he
        exact Ev.ret ⟨.bool false, by simp [Try.f23, hl], by rw [rightG_no hc he]; rfl⟩
      · refine Ev.region ?_
        apply EvOps.run
        · intro call; simp [hl, h7, wrap_succ i (by omega)]; exact rfl
        rw [Bool.not_eq_false'] at he
        exact ⟨s.length - (i + 1), by omega, _, i + 1, rfl, by simp [hl], by simp [h0], by simp [h5], by simp [h6], by simp [hl], by omega, rfl, by rw [range_all_succ, hok, he]; rfl⟩
    · simp only [decide_eq_false_iff_not] at hc
      have hin : i = s.length := by omega
      subst hin
      refine Ev.seq (Ev.region ?_)
      apply EvOps.run
      · intro call; simp [hl, h0, strs]; exact rfl
      refine Ev.ret ⟨.bool (decide ((s.length : Int) ≤ 512)), by simp [Try.f23, hl], ?_⟩
      rw [rightG, hok, Bool.true_and, strip_bool]
      congr 1
      rw [decide_eq_decide]; omega
  · exact ⟨_, 0, rfl, by simp, by simp [strs], by simp [strs], by simp [strs], by simp, by omega, rfl, by simp⟩
set_option maxHeartbeats 2000000 in
theorem refRightG_ok (s : List S) (hb : s.length ≤ 1000) (hx : ∀ x ∈ s, x.length ≤ 5000) : Ret cfg 54 [strs s] (.bool (rightG s)) := by
  refine Ret.of_body rfl rfl Try.func54 rfl (by simp) (by simp) ?_
  refine Ev.seq (Ev.region ?_)
  apply EvOps.run
  · intro call; simp [Try.f54]; exact rfl
  refine Ev.seq (Ev.seq (Ev.region ?_))
  apply EvOps.run
  · intro call; simp; exact rfl
  refine Ev.block ?_
  refine Ev.loop (fun m st => ∃ (fr : List AV) (i : Nat), st = ⟨fr, [], false⟩ ∧ fr.length = 36 ∧ slotAt fr 0 = some (strs s) ∧ slotAt fr 3 = some (.int .i64 (i : Nat)) ∧ i ≤ s.length ∧ m = s.length - i ∧ (List.range i).all (okAt s) = true) ?_ s.length _ ?_
  · rintro m st ⟨fr, i, rfl, hl, h0, h3, hi, rfl, hok⟩
    refine Ev.seq (Ev.seq (Ev.region ?_))
    apply EvOps.run
    · intro call; simp [hl, h0, h3, strs]; exact rfl
    refine Ev.cond (decide (i < s.length)) (by simp [hl]) (fun hc => Ev.skip ?_) (fun hc => Ev.exit ?_)
    · simp only [decide_eq_true_eq] at hc
      have hgi : s.getD i [] = s[i] := by simp [hc]
      refine Ev.seq (Ev.block (Ev.mid (fun st => ∃ fr, st = ⟨fr, [], false⟩ ∧ fr.length = 36 ∧ slotAt fr 0 = some (strs s) ∧ slotAt fr 3 = some (.int .i64 (i : Nat)) ∧ slotAt fr 32 = some (.bool (!okAt s i))) ?_ ?_))
      · refine Ev.region ?_
        by_cases hlo : 4096 < (s[i]).length
        · apply EvOps.run
          · intro call; simp [hl, h0, h3, strs, hc, show (4096 : Int) < ((s[i]).length : Int) by omega]; exact rfl
          refine ⟨_, rfl, by simp [hl], by simp [h0, strs], by simp [h3], ?_⟩
          simp only [okAt, hgi, hlo]
          simp [hl]
        · cases i with
          | zero =>
            apply EvOps.run
            · intro call; simp [hl, h0, h3, strs, hc, show ¬ (4096 : Int) < ((s[0]).length : Int) by omega]; exact rfl
            refine ⟨_, rfl, by simp [hl], by simp [h0, strs], by simp [h3], ?_⟩
            simp only [okAt, hgi, hlo]
            simp [hl]
          | succ j =>
            have hgj : s.getD (j + 1 - 1) [] = s[j] := by simp [show j < s.length by omega]
            have hls := less_ok s[j] s[j + 1] (by have := hx s[j] (List.getElem_mem _); omega)
            refine EvOps.take 19 ?_
            apply EvOps.run
            · intro call; simp [hl, h0, h3, strs, hc, show ¬ (4096 : Int) < ((s[j + 1]).length : Int) by omega, show ((j : Int) + 1 < (s.length : Int)) by omega, wrap_int (j : Int) (by omega) (by omega), show j < s.length by omega]; exact rfl
            refine EvOps.call rfl (by simp [hl]) (by simp [hl] <;> exact rfl) (by simp <;> exact ⟨rfl, rfl⟩) hls ?_
            apply EvOps.run
            · intro call; simp [hl]; exact rfl
            refine ⟨_, rfl, by simp [hl], by simp [h0, strs], by simp [h3], ?_⟩
            simp only [okAt, hgi, hgj, hlo]
            simp [hl]
      clear hl h0 h3 fr
      rintro _ ⟨fr, rfl, hl, h0, h3, h32⟩
      refine Ev.cond (!okAt s i) (by simp only [op_tmp, h32]) (fun he => ?_) (fun he => Ev.skip ?_)
      · refine Ev.seq (Ev.region ?_)
        apply EvOps.run
        · intro call; simp [hl]; exact rfl
        rw [Bool.not_eq_true'] at he
        exact Ev.ret ⟨.bool false, by simp [Try.f54, hl], by rw [rightG_no hc he]; rfl⟩
      · refine Ev.region ?_
        apply EvOps.run
        · intro call; simp [hl, h3, wrap_succ i (by omega)]; exact rfl
        rw [Bool.not_eq_false'] at he
        exact ⟨s.length - (i + 1), by omega, _, i + 1, rfl, by simp [hl], by simp [h0], by simp [hl], by omega, rfl, by rw [range_all_succ, hok, he]; rfl⟩
    · simp only [decide_eq_false_iff_not] at hc
      have hin : i = s.length := by omega
      subst hin
      refine Ev.seq (Ev.region ?_)
      apply EvOps.run
      · intro call; simp [hl, h0, strs]; exact rfl
      refine Ev.ret ⟨.bool (decide ((s.length : Int) ≤ 512)), by simp [Try.f54, hl], ?_⟩
      rw [rightG, hok, Bool.true_and, strip_bool]
      congr 1
      rw [decide_eq_decide]; omega
  · exact ⟨_, 0, rfl, by simp, by simp [strs], by simp, by omega, rfl, by simp⟩
end Go.Proofs.Ytnifldbmflkmpaa
