/-
  SetJoins: the run, and why it answers true.
-/
import Derived.Test.YtnifldbmflkmpaaFm
namespace Go.Proofs.Ytnifldbmflkmpaa
open Go Ev
set_option linter.unusedVariables false
set_option linter.unusedSimpArgs false
set_option maxRecDepth 10000
theorem map_take_succ' (f : List S → List S) (l : List (List S)) (i : Nat) (h : i < l.length) : ((l.take i).map f).map strs ++ [strs (f l[i])] = ((l.take (i + 1)).map f).map strs := by
  rw [List.take_add_one, List.getElem?_eq_getElem h, List.map_append, List.map_append]; rfl
theorem words_self (u : List S) (h : u.length < 2 ^ 60) : Ret cfg 18 [strs u, strs u] (.bool true) := by
  have := words_ok u u h
  rwa [show (u == u) = true by simp] at this
set_option maxHeartbeats 4000000 in
theorem setJoins_ev (ll : List (List S)) : ∃ k h d, evalF cfg k 3 [strss ll] [] = some (.bool true, h, d) := by
  refine law_of_body (by decide) Try.func3 rfl ?_
  refine Ev.seq (Ev.region ?_)
  apply EvOps.run
  · intro call; simp [Try.f3]; exact rfl
  refine Ev.seq (Ev.seq (Ev.region ?_))
  refine EvOps.call rfl (by simp) (by simp <;> exact rfl) (by simp <;> exact rfl) awake_ok ?_
  by_cases h8 : 8 < ll.length
  · apply EvOps.run
    · intro call; simp [strss]; exact rfl
    refine Ev.cond true (by simp; omega) (fun _ => ?_) (fun h => by simp at h)
    refine Ev.seq (Ev.region ?_)
    refine EvOps.call rfl (by simp) (by simp <;> exact rfl) (by simp <;> exact rfl) awake_ok ?_
    apply EvOps.run
    · intro call; simp; exact rfl
    exact Ev.ret ⟨by simp, by simp [Try.f3]⟩
  apply EvOps.keep (h' := []) (d' := false) (fun fr => fr.length = 76 ∧ slotAt fr 0 = some (strss ll) ∧ slotAt fr 15 = some (.bool false))
  · intro call; simp [strss]; exact rfl
  · exact ⟨by simp, by simp [strss], by simp; omega⟩
  rintro fr ⟨hl, h0, h15⟩
  refine Ev.cond false (by simp [h15]) (fun h => by simp at h) (fun _ => Ev.skip ?_)
  refine Ev.seq (Ev.region ?_)
  apply EvOps.run
  · intro call; simp; exact rfl
  refine Ev.seq (Ev.seq (Ev.region ?_))
  apply EvOps.run
  · intro call; simp; exact rfl
  refine Ev.block ?_
  refine Ev.loop (fun m st => ∃ fr h out i, st = ⟨fr, h, false⟩ ∧ fr.length = 76 ∧ slotAt fr 0 = some (strss ll) ∧ slotAt fr 3 = some out ∧ Grow 1 h out (((ll.take i).map (madeS · 40)).map strs) ∧ slotAt fr 4 = some (.int .i64 (i : Nat)) ∧ i ≤ ll.length ∧ m = ll.length - i) ?_ ll.length _ ?_
  · rintro m st ⟨fr, h, out, i, rfl, hl, h0, h3, hg, h4, hi, rfl⟩
    refine Ev.seq (Ev.seq (Ev.region ?_))
    apply EvOps.run
    · intro call; simp [hl, h0, h4, strss]; exact rfl
    refine Ev.cond (decide (i < ll.length)) (by simp [hl]) (fun hc => Ev.skip ?_) (fun hc => Ev.exit ?_)
    · simp only [decide_eq_true_eq] at hc
      refine Ev.seq (Ev.block (Ev.region (EvOps.take 5 ?_)))
      apply EvOps.run
      · intro call; simp [hl, h0, h3, h4, strs, strss, hc]; exact rfl
      refine EvOps.call rfl (by simp) (by simp [hl] <;> exact rfl) (by simp [strs] <;> exact ⟨rfl, rfl⟩) (made_ok ll[i] 40 (by omega)) (EvOps.take 1 ?_)
      apply EvOps.run
      · intro call; simp [hl, buildSliceA, strs]; exact rfl
      refine EvOps.append (x := out) (y := .list [strs (madeS ll[i] 40)] true (some 1) none) rfl rfl (by simp) (by simp [hl, strs]) Try.underlying22 Try.underlying22 rfl Ty.s24 Ty.b24 Ty.z24 rfl hg (headOk_strss _) (ys := [strs (madeS ll[i] 40)]) (by simp [elemsA, headOk_cons, strs]) (by simp only [List.length_map, List.length_singleton, List.length_take]; omega) ?_
      intro out1 h1' hg1 _
      apply EvOps.run
      · intro call; simp [hl]; exact rfl
      rw [map_take_succ' _ _ _ hc] at hg1
      refine Ev.region ?_
      apply EvOps.run
      · intro call; simp [hl, h4, wrap_succ i (by omega)]; exact rfl
      exact ⟨ll.length - (i + 1), by omega, _, _, out1, i + 1, rfl, by simp [hl], by simp [h0], by simp [hl], hg1, by simp [hl], by omega, rfl⟩
    · simp only [decide_eq_false_iff_not] at hc
      rw [List.take_of_length_le (by omega)] at hg
      have hsort : ∀ l ∈ ll.map (madeS · 40), Sorted l := by
        intro l hl
        obtain ⟨x, _, rfl⟩ := List.mem_map.1 hl
        exact sorted_madeS x 40
      have hlen : ∀ l ∈ ll.map (madeS · 40), l.length ≤ 1048576 := by
        intro l hl
        obtain ⟨x, _, rfl⟩ := List.mem_map.1 hl
        have := made_le x 40 (by omega)
        omega
      have hshort : ∀ l ∈ ll.map (madeS · 40), ∀ x ∈ l, x.length ≤ 1048576 := by
        intro l hl x hx
        obtain ⟨y, _, rfl⟩ := List.mem_map.1 hl
        have := madeS_short y 40 x hx
        omega
      have hcount : (ll.map (madeS · 40)).length ≤ 1024 := by simp; omega
      generalize ll.map (madeS · 40) = ss at *
      have hstrip := hg.strip
      rw [stripL_strss, show AV.L (ss.map strs) = strss ss from rfl] at hstrip
      have hU := union_ok ss hcount hlen
      have hV := refUnion_ok ss hcount hlen hshort
      rw [← union_eq ss hsort] at hV
      have hI := inter_ok ss hcount hlen
      have hJ := refInter_ok ss hcount hlen
      rw [← inter_eq ss hsort] at hJ
      have hil : (interS ss).length < 2 ^ 60 := by
        cases ss with
        | nil => simp [interS]
        | cons s ss =>
          have := foldM_length andB 1048576 ss s (fun l hl => hlen l (List.mem_cons_of_mem _ hl))
          have h1 := hlen s (by simp)
          have h2 : ss.length * 1048576 ≤ 1024 * 1048576 := Nat.mul_le_mul_right _ (by simp at hcount; omega)
          show (foldM andB s ss).length < 2 ^ 60
          omega
      have hWI := words_self _ hil
      generalize interS ss = p at *
      obtain ⟨u, n, hU', hV', hul⟩ : ∃ (u : List S) (n : Int), Ret cfg 16 [strss ss] (.tuple [strs u, .int .i64 n]) ∧ Ret cfg 17 [strss ss] (.tuple [strs u, .int .i64 n]) ∧ u.length ≤ 512 := by
        by_cases hq : (unionS ss).length ≤ 512
        · rw [if_pos hq] at hU hV; exact ⟨_, _, hU, hV, hq⟩
        · rw [if_neg hq] at hU hV; exact ⟨_, _, hU, hV, by simp⟩
      clear hU hV
      have hW := words_self u (by omega)
      refine Ev.seq (Ev.region (EvOps.take 1 ?_))
      apply EvOps.run
      · intro call; simp [hl, h3]; exact rfl
      refine EvOps.call rfl (by simp) (by simp [hl] <;> exact rfl) (by simp [hstrip] <;> exact rfl) hU' ?_
      apply EvOps.keep (h' := h) (d' := false) (fun fr => fr.length = 76 ∧ slotAt fr 3 = some out ∧ slotAt fr 5 = some (strs u) ∧ slotAt fr 6 = some (.int .i64 n))
      · intro call; simp [hl]; exact rfl
      · exact ⟨by simp [hl], by simp [h3], by simp [hl], by simp [hl]⟩
      clear hl h0 h3 h4 fr
      rintro fr ⟨hl, h3, h5, h6⟩
      refine Ev.seq (Ev.region (EvOps.take 1 ?_))
      apply EvOps.run
      · intro call; simp [hl, h3]; exact rfl
      refine EvOps.call rfl (by simp) (by simp [hl] <;> exact rfl) (by simp [hstrip] <;> exact rfl) hV' ?_
      apply EvOps.keep (h' := h) (d' := false) (fun fr => fr.length = 76 ∧ slotAt fr 3 = some out ∧ slotAt fr 5 = some (strs u) ∧ slotAt fr 6 = some (.int .i64 n) ∧ slotAt fr 7 = some (strs u) ∧ slotAt fr 8 = some (.int .i64 n))
      · intro call; simp [hl]; exact rfl
      · exact ⟨by simp [hl], by simp [h3], by simp [h5], by simp [h6], by simp [hl], by simp [hl]⟩
      clear hl h3 h5 h6 fr
      rintro fr ⟨hl, h3, h5, h6, h7, h8⟩
      refine Ev.seq (Ev.seq (Ev.region (EvOps.take 2 ?_)))
      apply EvOps.run
      · intro call; simp [hl, h5, h7]; exact rfl
      refine EvOps.call rfl (by simp) (by simp [hl] <;> exact rfl) (by simp <;> exact ⟨rfl, rfl⟩) hW (EvOps.take 8 ?_)
      apply EvOps.run
      · intro call; simp [hl, h3, h6, h8]; exact rfl
      refine EvOps.call rfl (by simp [hl]) (by simp [hl] <;> exact rfl) (by simp [hstrip] <;> exact rfl) hI (EvOps.take 1 ?_)
      apply EvOps.run
      · intro call; simp [hl, h3]; exact rfl
      refine EvOps.call rfl (by simp [hl]) (by simp [hl] <;> exact rfl) (by simp [hstrip] <;> exact rfl) hJ ?_
      refine EvOps.call rfl (by simp [hl]) (by simp [hl] <;> exact rfl) (by simp <;> exact ⟨rfl, rfl⟩) hWI ?_
      apply EvOps.keep (h' := h) (d' := false) (fun fr => fr.length = 76 ∧ slotAt fr 3 = some out ∧ slotAt fr 57 = some (.bool false))
      · intro call; simp [hl]; exact rfl
      · exact ⟨by simp [hl], by simp [h3], by simp [hl]⟩
      clear hl h3 h5 h6 h7 h8 fr
      rintro fr ⟨hl, h3, h57⟩
      refine Ev.cond false (by simp [h57]) (fun h => by simp at h) (fun _ => Ev.skip ?_)
      cases ss with
      | nil =>
        have hlen0 : lenA Try.prog 22 out = some (.int .i64 0) := by
          rcases hg with ⟨rfl, _⟩ | ⟨τ, rfl, _⟩ | ⟨nn, rfl⟩ <;> simp
        refine Ev.seq (Ev.region ?_)
        apply EvOps.run
        · intro call; simp [-lenA, hl, h3, hlen0]; exact rfl
        exact Ev.ret ⟨by simp, by simp [Try.f3, hl]⟩
      | cons s ss =>
        obtain ⟨nn, c, t, rfl⟩ : ∃ nn c t, out = .list (strs s :: ss.map strs) nn c t := by
          rcases hg with ⟨_, h⟩ | ⟨τ, h, _⟩ | ⟨nn, h⟩
          · simp at h
          · exact ⟨_, _, _, h⟩
          · exact ⟨_, _, _, h⟩
        have hs := hsort s (by simp)
        have hss : ∀ l ∈ ss, Sorted l := fun l hl => hsort l (List.mem_cons_of_mem _ hl)
        have hD := diff_ok s ss (by simp at hcount; omega) (fun l hl => hlen l (List.mem_cons_of_mem _ hl)) (hlen s (by simp))
        have hE := refDiff_ok s ss (by simp at hcount; omega) (fun l hl => hlen l (List.mem_cons_of_mem _ hl)) (hlen s (by simp))
        have hdl : (foldM notB s ss).length < 2 ^ 60 := by
          have := refDiff_length ss s
          have h1 := hlen s (by simp)
          rw [diff_eq s ss hs hss]
          omega
        have hWD := words_self _ hdl
        rw [← diff_eq s ss hs hss] at hE
        generalize foldM notB s ss = q at *
        refine Ev.seq (Ev.region (EvOps.take 9 ?_))
        apply EvOps.run
        · intro call; simp [hl, h3, strs, sliceA, headOk_cons]; exact rfl
        refine EvOps.call rfl (by simp [hl]) (by simp [hl] <;> exact rfl) (by simp [strs, strss] <;> exact ⟨rfl, rfl⟩) hD (EvOps.take 5 ?_)
        apply EvOps.run
        · intro call; simp [hl, h3, strs, sliceA, headOk_cons]; exact rfl
        refine EvOps.call rfl (by simp [hl]) (by simp [hl] <;> exact rfl) (by simp [strs, strss] <;> exact ⟨rfl, rfl⟩) hE ?_
        refine EvOps.call rfl (by simp [hl]) (by simp [hl] <;> exact rfl) (by simp [strs] <;> exact ⟨rfl, rfl⟩) hWD ?_
        apply EvOps.run
        · intro call; simp [hl]; exact rfl
        exact Ev.ret ⟨by simp, by simp [Try.f3, hl]⟩
  · exact ⟨_, _, _, 0, rfl, by simp [hl], by simp [h0], by simp [hl], Grow.nils _ _, by simp [hl], by omega, rfl⟩
end Go.Proofs.Ytnifldbmflkmpaa
