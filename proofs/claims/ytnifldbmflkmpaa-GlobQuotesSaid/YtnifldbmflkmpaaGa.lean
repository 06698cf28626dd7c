/-
  Replies, as the evaluator holds them; the functions that make them.
-/
import Derived.Test.YtnifldbmflkmpaaCf
namespace Go.Proofs.Ytnifldbmflkmpaa
open Go Ev
set_option linter.unusedVariables false
set_option linter.unusedSimpArgs false
set_option maxRecDepth 10000
/-- A reply. -/
inductive R where
  | mk (k : Int) (s : S) (n : Int) (l : List R)
mutual
def aR : R → AV
  | .mk k s n l => .agg [.int .i64 k, .str s, .int .i64 n, .L (aRs l)]
def aRs : List R → List AV
  | [] => []
  | r :: l => aR r :: aRs l
end
mutual
def sameR : R → R → Bool
  | .mk k s n l, .mk k' s' n' l' => k == k' && s == s' && n == n' && sameRs l l'
def sameRs : List R → List R → Bool
  | [], [] => true
  | a :: l, b :: l' => sameR a b && sameRs l l'
  | _, _ => false
end
theorem aRs_map : ∀ l : List R, aRs l = l.map aR
  | [] => by simp only [aRs, List.map_nil]
  | r :: l => by simp only [aRs, List.map_cons, aRs_map l]
mutual
theorem strip_aR : ∀ r : R, (aR r).strip = aR r
  | .mk k s n l => by simp only [aR, strip_agg, stripL_cons, strip_int, strip_str, strip_list, stripL_nil, stripL_aRs l]
theorem stripL_aRs : ∀ l : List R, stripL (aRs l) = aRs l
  | [] => by simp only [aRs, stripL_nil]
  | r :: l => by simp only [aRs, stripL_cons, strip_aR r, stripL_aRs l]
end
mutual
theorem clean_aR (m : Nat) : ∀ r : R, (aR r).clean m = true
  | .mk k s n l => by simp only [aR, clean_agg, cleanL_cons, clean_int, clean_str, clean_list, cleanL_nil, cleanL_aRs m l, Bool.and_self]
theorem cleanL_aRs (m : Nat) : ∀ l : List R, cleanL m (aRs l) = true
  | [] => by simp only [aRs, cleanL_nil]
  | r :: l => by simp only [aRs, cleanL_cons, clean_aR m r, cleanL_aRs m l, Bool.and_self]
end
attribute [simp] strip_aR stripL_aRs clean_aR cleanL_aRs
@[simp] theorem aRs_length (l : List R) : (aRs l).length = l.length := by rw [aRs_map, List.length_map]
theorem aRs_get (l : List R) (i : Nat) (h : i < l.length) : (aRs l)[i]? = some (aR l[i]) := by rw [aRs_map]; simp [h]
@[simp] theorem aRs_getElem (l : List R) (i : Nat) (h : i < (aRs l).length) : (aRs l)[i] = aR (l[i]'(by simpa using h)) := by simp only [aRs_map, List.getElem_map]
theorem aR_agg (r : R) : ∃ cs, aR r = .agg cs ∧ cs.length = 4 ∧ stripL cs = cs := by
  cases r with
  | mk k s n l => exact ⟨_, rfl, rfl, by simp⟩
@[simp] theorem aR_len (r : R) : (aR r).cells.length = 4 := by cases r; rfl
@[simp] theorem headOk_aRs : ∀ l : List R, headOk 4 (aRs l) = true
  | [] => rfl
  | r :: l => by simp only [aRs, headOk, aR_len, beq_self_eq_true]
def rs (l : List R) : AV := .L (aRs l)
@[simp] theorem strip_rs (l : List R) : (rs l).strip = rs l := by simp [rs]
@[simp] theorem clean_rs (n : Nat) (l : List R) : (rs l).clean n = true := by simp [rs]

theorem str_ok (s : S) : Ret cfg 34 [.str s] (aR (.mk 3 s 0 [])) := by
  refine Ret.of_body rfl rfl Try.func34 rfl (by simp) (by simp) ?_
  refine Ev.seq (Ev.region ?_)
  apply EvOps.run
  · intro call; simp [Try.f34]; exact rfl
  refine Ev.seq (Ev.region ?_)
  apply EvOps.run
  · intro call; simp [buildA, structPlaces, fillA, splice]; exact rfl
  exact Ev.ret ⟨_, by simp; rfl, by simp [aR, aRs]⟩
theorem text_ok (s : S) : Ret cfg 31 [.str s] (aR (.mk 0 s 0 [])) := by
  refine Ret.of_body rfl rfl Try.func31 rfl (by simp) (by simp) ?_
  refine Ev.seq (Ev.region ?_)
  apply EvOps.run
  · intro call; simp [Try.f31]; exact rfl
  refine Ev.seq (Ev.region ?_)
  apply EvOps.run
  · intro call; simp [buildA, structPlaces, fillA, splice]; exact rfl
  exact Ev.ret ⟨_, by simp; rfl, by simp [aR, aRs]⟩
theorem wrong_ok (s : S) : Ret cfg 32 [.str s] (aR (.mk 1 s 0 [])) := by
  refine Ret.of_body rfl rfl Try.func32 rfl (by simp) (by simp) ?_
  refine Ev.seq (Ev.region ?_)
  apply EvOps.run
  · intro call; simp [Try.f32]; exact rfl
  refine Ev.seq (Ev.region ?_)
  apply EvOps.run
  · intro call; simp [buildA, structPlaces, fillA, splice]; exact rfl
  exact Ev.ret ⟨_, by simp; rfl, by simp [aR, aRs]⟩
theorem int_ok (n : Int) : Ret cfg 33 [.int .i64 n] (aR (.mk 2 [] n [])) := by
  refine Ret.of_body rfl rfl Try.func33 rfl (by simp) (by simp) ?_
  refine Ev.seq (Ev.region ?_)
  apply EvOps.run
  · intro call; simp [Try.f33]; exact rfl
  refine Ev.seq (Ev.region ?_)
  apply EvOps.run
  · intro call; simp [buildA, structPlaces, fillA, splice]; exact rfl
  exact Ev.ret ⟨_, by simp; rfl, by simp [aR, aRs]⟩
theorem none_ok  : Ret cfg 35 [] (aR (.mk 4 [] 0 [])) := by
  refine Ret.of_body rfl rfl Try.func35 rfl (by simp) (by simp) ?_
  refine Ev.seq (Ev.region ?_)
  apply EvOps.run
  · intro call; simp [Try.f35]; exact rfl
  refine Ev.seq (Ev.region ?_)
  apply EvOps.run
  · intro call; simp [buildA, structPlaces, fillA, splice]; exact rfl
  exact Ev.ret ⟨_, by simp; rfl, by simp [aR, aRs]⟩
theorem cloneR_ok (l : List R) (hb : l.length < 2 ^ 36) : Ret cfg 64 [rs l] (rs l) := by
  refine Ret.of_prim (p := cloneA 4) rfl (by simp) ?_ (by simp)
  simp only [rs, cloneA, headOk_aRs, aRs_length, true_and, stripL_aRs]
  rw [if_pos (by omega)]
theorem list_ok (l : List R) (hb : l.length < 2 ^ 36) : Ret cfg 30 [rs l] (aR (.mk 5 [] 0 l)) := by
  refine Ret.of_body rfl rfl Try.func30 rfl (by simp) (by simp) ?_
  refine Ev.seq (Ev.region ?_)
  apply EvOps.run
  · intro call; simp [Try.f30]; exact rfl
  refine Ev.seq (Ev.region (EvOps.take 1 ?_))
  apply EvOps.run
  · intro call; simp; exact rfl
  refine EvOps.call rfl (by simp) (by simp <;> exact rfl) (by simp <;> exact rfl) (cloneR_ok l hb) ?_
  apply EvOps.run
  · intro call; simp [buildA, structPlaces, fillA, splice, rs]; exact rfl
  exact Ev.ret ⟨_, by simp; rfl, by simp [aR]⟩
theorem map_aR_take (f : S → R) (l : List S) (i : Nat) (h : i < l.length) : aRs ((l.take i).map f) ++ [aR (f l[i])] = aRs ((l.take (i + 1)).map f) := by
  rw [List.take_add_one, List.getElem?_eq_getElem h, List.map_append, aRs_map, aRs_map, List.map_append]; rfl
def bulk (s : S) : R := .mk 3 s 0 []
theorem strs2_ok (ss : List S) (hb : ss.length < 2 ^ 36) : Ret cfg 29 [strs ss] (aR (.mk 5 [] 0 (ss.map bulk))) := by
  refine Ret.of_body rfl rfl Try.func29 rfl (by simp) (by simp) ?_
  refine Ev.seq (Ev.region ?_)
  apply EvOps.run
  · intro call; simp [Try.f29]; exact rfl
  refine Ev.seq (Ev.region ?_)
  apply EvOps.run
  · intro call; simp; exact rfl
  refine Ev.seq (Ev.seq (Ev.region ?_))
  apply EvOps.run
  · intro call; simp [strs]; exact rfl
  refine Ev.block ?_
  refine Ev.loop (fun m st => ∃ fr h out i, st = ⟨fr, h, false⟩ ∧ fr.length = 20 ∧ slotAt fr 6 = some (strs ss) ∧ slotAt fr 7 = some (.int .i64 (ss.length : Nat)) ∧ slotAt fr 2 = some (.ptr 0 0) ∧ h[0]? = some (.cells [.int .i64 0, .str [], .int .i64 0, .nils]) ∧ slotAt fr 3 = some out ∧ Grow 4 h out (aRs ((ss.take i).map bulk)) ∧ tokOf out ≠ some 0 ∧ slotAt fr 8 = some (.int .i64 (i : Nat)) ∧ i ≤ ss.length ∧ m = ss.length - i) ?_ ss.length _ ?_
  · rintro m st ⟨fr, h, out, i, rfl, hl, h6, h7, h2, hh, h3, hg, ht, h8, hi, rfl⟩
    refine Ev.seq (Ev.region ?_)
    apply EvOps.run
    · intro call; simp [hl, h7, h8]; exact rfl
    refine Ev.seq (Ev.cond (decide (i < ss.length)) (by simp [hl]) (fun hc => Ev.skip ?_) (fun hc => Ev.exit ?_))
    · simp only [decide_eq_true_eq] at hc
      refine Ev.seq (Ev.block (Ev.seq (Ev.region ?_)))
      apply EvOps.run
      · intro call; simp [hl, h6, h8, strs, hc]; exact rfl
      refine Ev.region (EvOps.take 2 ?_)
      apply EvOps.run
      · intro call; simp [hl, h3]; exact rfl
      refine EvOps.call rfl (by simp) (by simp [hl] <;> exact rfl) (by simp <;> exact rfl) (str_ok ss[i]) (EvOps.take 1 ?_)
      apply EvOps.run
      · intro call; simp [hl, buildSliceA, aR, aRs]; exact rfl
      refine EvOps.append (x := out) (y := .list [aR (bulk ss[i])] true (some 1) none) rfl rfl (by simp) (by simp [hl, aR, bulk, aRs]) Try.underlying38 Try.underlying38 rfl Ty.s40 Ty.b40 Ty.z40 rfl hg (headOk_aRs _) (ys := [aR (bulk ss[i])]) (by simp [elemsA, headOk_cons, aR, bulk]) (by simp only [aRs_length, List.length_map, List.length_singleton, List.length_take]; omega) ?_
      intro out1 h1' hg1 hst
      apply EvOps.run
      · intro call; simp [hl]; exact rfl
      rw [map_aR_take _ _ _ hc] at hg1
      refine Ev.region ?_
      apply EvOps.run
      · intro call; simp [hl, h8, wrap_succ i (by omega)]; exact rfl
      have h0l : 0 < h.length := (List.getElem?_eq_some_iff.1 hh).1
      refine ⟨ss.length - (i + 1), by omega, _, _, out1, i + 1, rfl, by simp [hl], by simp [h6], by simp [h7], by simp [h2], ?_, by simp [hl], hg1, ?_, by simp [hl], by omega, rfl⟩
      · rw [hst.old 0 h0l ht]; exact hh
      · rcases hst.tok with e | e
        · rw [e]; exact ht
        · intro e'; have : h.length ≤ 0 := e 0 e'; omega
    · simp only [decide_eq_false_iff_not] at hc
      rw [List.take_of_length_le (by omega)] at hg
      refine Ev.seq (Ev.region (EvOps.take 1 ?_))
      apply EvOps.run
      · intro call; simp [hl, h3]; exact rfl
      refine EvOps.call rfl (by simp) (by simp [hl] <;> exact rfl) (by simp [hg.strip] <;> exact rfl) (list_ok (ss.map bulk) (by simpa using hb)) ?_
      have h0l : 0 < h.length := (List.getElem?_eq_some_iff.1 hh).1
      apply EvOps.run
      · intro call; simp [hl, h2, hh, aR, splice]; exact rfl
      refine Ev.ret ⟨aR (.mk 5 [] 0 (ss.map bulk)), ?_, by simp⟩
      simp [Try.f29, hl, h2, h0l, aR]
  · exact ⟨_, _, _, 0, rfl, by simp, by simp [strs], by simp, by simp, by simp, by simp, Grow.nils _ _, by simp [tokOf], by simp, by omega, rfl⟩
end Go.Proofs.Ytnifldbmflkmpaa
