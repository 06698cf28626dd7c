/-
  The merge of two sorted lists, as the evaluator runs it.
-/
import Derived.Test.YtnifldbmflkmpaaFc
import Derived.Sort.Walk0
namespace Go.Proofs.Ytnifldbmflkmpaa
open Go Ev
set_option linter.unusedVariables false
set_option linter.unusedSimpArgs false
set_option maxRecDepth 10000
theorem lt_irrefl (x : S) : Op.bytesLess x x = false := by rw [bytesLess_eq]; simp [List.lt_irrefl]
theorem lt_trans {x y z : S} (h : Op.bytesLess x y = true) (k : Op.bytesLess y z = true) : Op.bytesLess x z = true := by
  rw [bytesLess_eq, decide_eq_true_eq] at *
  exact List.lt_trans h k
theorem lt_asymm {x y : S} (h : Op.bytesLess x y = true) : Op.bytesLess y x = false := by
  cases hq : Op.bytesLess y x with
  | false => rfl
  | true => have := lt_trans h hq; rw [lt_irrefl] at this; cases this
theorem lt_ne {x y : S} (h : Op.bytesLess x y = true) : x ≠ y := fun e => by subst e; rw [lt_irrefl] at h; cases h
theorem lt_tri {x y : S} (h : Op.bytesLess x y = false) (k : Op.bytesLess y x = false) : x = y := by
  rw [bytesLess_eq, decide_eq_false_iff_not] at *
  exact List.le_antisymm (List.not_lt.1 k) (List.not_lt.1 h)
def keepIf (b : Bool) (x : S) : List S := if b then [x] else []
def mergeS (k : Bool → Bool → Bool) : List S → List S → List S
  | [], [] => []
  | a :: xs, [] => keepIf (k true false) a ++ mergeS k xs []
  | [], b :: ys => keepIf (k false true) b ++ mergeS k [] ys
  | a :: xs, b :: ys =>
    if lt a b then keepIf (k true false) a ++ mergeS k xs (b :: ys)
    else if lt b a then keepIf (k false true) b ++ mergeS k (a :: xs) ys
    else keepIf (k true true) b ++ mergeS k xs ys
termination_by a b => a.length + b.length

set_option maxHeartbeats 4000000 in
theorem merge_ok (g : FuncId) (k : Bool → Bool → Bool) (hk : ∀ a b, Ret cfg g [.bool a, .bool b] (.bool (k a b))) (a0 b0 : List S) (hb : a0.length + b0.length < 2 ^ 40) :
    Ret cfg 56 [strs a0, strs b0, .func (.func g) [] []] (strs (mergeS k a0 b0)) := by
  refine Ret.of_body rfl rfl Try.func56 rfl (by simp) (by simp) ?_
  refine Ev.seq (Ev.region ?_)
  apply EvOps.run
  · intro call; simp [Try.f56]; exact rfl
  refine Ev.seq (Ev.region ?_)
  apply EvOps.run
  · intro call; simp; exact rfl
  refine Ev.seq (Ev.block ?_)
  refine Ev.loop (fun m st => ∃ fr h out a b acc, st = ⟨fr, h, false⟩ ∧ fr.length = 74 ∧ slotAt fr 0 = some (strs a) ∧ slotAt fr 1 = some (strs b) ∧ slotAt fr 2 = some (.func (.func g) [] []) ∧ slotAt fr 7 = some out ∧ Grow 1 h out (acc.map .str) ∧ m = a.length + b.length ∧ acc ++ mergeS k a b = mergeS k a0 b0 ∧ acc.length + a.length + b.length ≤ a0.length + b0.length) ?_ (a0.length + b0.length) _ ?_
  · rintro m st ⟨fr, h, out, a, b, acc, rfl, hl, h0, h1, h2, h7, hg, rfl, hm, hlen⟩
    cases a with
    | nil =>
      cases b with
      | nil =>
        refine Ev.seq (Ev.seq (Ev.region ?_))
        apply EvOps.run
        · intro call; simp [hl, h0, h1, strs]; exact rfl
        refine Ev.cond false (by simp [hl]) (fun h => by simp at h) (fun _ => Ev.exit ?_)
        refine Ev.seq (Ev.region ?_)
        apply EvOps.run
        · intro call; simp [hl, h7]; exact rfl
        refine Ev.ret ⟨_, by simp [Try.f56, hl]; rfl, ?_⟩
        rw [hg.strip, stripL_strs, ← hm]
        simp [mergeS, strs]
      | cons y ys =>
        refine Ev.seq (Ev.seq (Ev.region ?_))
        apply EvOps.keep (h' := h) (d' := false) (fun fr => fr.length = 74 ∧ slotAt fr 0 = some (strs ([] : List S)) ∧ slotAt fr 1 = some (strs (y :: ys)) ∧ slotAt fr 2 = some (.func (.func g) [] []) ∧ slotAt fr 7 = some out ∧ slotAt fr 18 = some (.bool true))
        · intro call; simp [hl, h0, h1, strs]; exact rfl
        · exact ⟨by simp [hl, h0, h1, h2, h7, strs], by simp [hl, h0, h1, h2, h7, strs], by simp [hl, h0, h1, h2, h7, strs], by simp [hl, h0, h1, h2, h7, strs], by simp [hl, h0, h1, h2, h7, strs], by simp [hl, h0, h1, h2, h7, strs]⟩
        clear hl h0 h1 h2 h7
        rintro fr ⟨hl, h0, h1, h2, h7, g18⟩
        refine Ev.cond true (by simp [g18]) (fun _ => Ev.skip ?_) (fun h => by simp at h)
        clear g18
        refine Ev.block (Ev.seq (Ev.region ?_))
        apply EvOps.keep (h' := h) (d' := false) (fun fr => fr.length = 74 ∧ slotAt fr 0 = some (strs ([] : List S)) ∧ slotAt fr 1 = some (strs (y :: ys)) ∧ slotAt fr 2 = some (.func (.func g) [] []) ∧ slotAt fr 7 = some out ∧ slotAt fr 8 = some (.bool false))
        · intro call; simp [hl, h0, h1, strs]; exact rfl
        · exact ⟨by simp [hl, h0, h1, h2, h7, strs], by simp [hl, h0, h1, h2, h7, strs], by simp [hl, h0, h1, h2, h7, strs], by simp [hl, h0, h1, h2, h7, strs], by simp [hl, h0, h1, h2, h7, strs], by simp [hl, h0, h1, h2, h7, strs]⟩
        clear hl h0 h1 h2 h7
        rintro fr ⟨hl, h0, h1, h2, h7, g8⟩
        refine Ev.seq (Ev.region ?_)
        apply EvOps.keep (h' := h) (d' := false) (fun fr => fr.length = 74 ∧ slotAt fr 0 = some (strs ([] : List S)) ∧ slotAt fr 1 = some (strs (y :: ys)) ∧ slotAt fr 2 = some (.func (.func g) [] []) ∧ slotAt fr 7 = some out ∧ slotAt fr 8 = some (.bool false) ∧ slotAt fr 9 = some (.bool true))
        · intro call; simp [hl, h0, h1, strs, g8]; exact rfl
        · exact ⟨by simp [hl, h0, h1, h2, h7, strs, g8], by simp [hl, h0, h1, h2, h7, strs, g8], by simp [hl, h0, h1, h2, h7, strs, g8], by simp [hl, h0, h1, h2, h7, strs, g8], by simp [hl, h0, h1, h2, h7, strs, g8], by simp [hl, h0, h1, h2, h7, strs, g8], by simp [hl, h0, h1, h2, h7, strs, g8]⟩
        clear hl h0 h1 h2 h7  g8
        rintro fr ⟨hl, h0, h1, h2, h7, g8, g9⟩
        refine Ev.seq (Ev.region ?_)
        apply EvOps.run
        · intro call; simp [hl]; exact rfl
        refine Ev.seq (Ev.seq (Ev.region ?_))
        apply EvOps.run
        · intro call; simp [hl, g8]; exact rfl
        refine Ev.cond false (by simp [hl]) (fun h => by simp at h) (fun _ => Ev.skip ?_)
        refine Ev.seq (Ev.seq (Ev.region ?_))
        apply EvOps.run
        · intro call; simp [hl, g9]; exact rfl
        refine Ev.cond true (by simp [hl]) (fun _ => Ev.region ?_) (fun h => by simp at h)
        apply EvOps.run
        · intro call; simp [hl, h0, h1, strs, sliceA]; exact rfl
        refine Ev.seq (Ev.region (EvOps.take 3 ?_))
        apply EvOps.run
        · intro call; simp [hl, h2, g8, g9]; exact rfl
        refine EvOps.callv (g := g) (first := []) (captured := []) rfl (by simp [hl]) (by simp) (by simp [hl] <;> exact rfl) (by simp <;> exact rfl) (hk false true) (EvOps.nil ?_)
        refine Ev.cond (k false true) (by simp [hl]) (fun he => ?_) (fun he => Ev.skip ?_)
        · refine Ev.region (EvOps.take 3 ?_)
          apply EvOps.run
          · intro call; simp [hl, h7, buildSliceA]; exact rfl
          refine EvOps.append rfl rfl (by simp) (by simp [hl]; exact rfl) Try.underlying24 Try.underlying24 rfl Ty.s9 Ty.b9 Ty.z9 rfl hg (headOk_strs _) (ys := [.str y]) (by simp [elemsA, headOk_cons]) (by simp only [List.length_map, List.length_cons, List.length_nil] at hlen ⊢; omega) ?_
          intro out1 h1' hg1 _
          apply EvOps.run
          · intro call; simp [hl]; exact rfl
          have hg2 : Grow 1 h1' out1 ((acc ++ [y]).map .str) := by simpa using hg1
          exact ⟨([] : List S).length + ys.length, by simp only [List.length_cons, List.length_nil]; omega, _, _, out1, ([] : List S), ys, acc ++ [y], rfl, by simp [hl], by simp [hl, h0, strs], by simp [hl, h1, strs], by simp [h2], by simp [hl, h7], hg2, rfl, by rw [← hm]; simp [mergeS, keepIf, he], by simp only [List.length_append, List.length_cons, List.length_nil] at hlen ⊢; omega⟩
        · exact ⟨([] : List S).length + ys.length, by simp only [List.length_cons, List.length_nil]; omega, _, _, out, ([] : List S), ys, acc, rfl, by simp [hl], by simp [hl, h0, strs], by simp [hl, h1, strs], by simp [h2], by simp [hl, h7], hg, rfl, by rw [← hm]; simp [mergeS, keepIf, he], by simp only [List.length_cons, List.length_nil] at hlen ⊢; omega⟩
    | cons x xs =>
      cases b with
      | nil =>
        refine Ev.seq (Ev.seq (Ev.region ?_))
        apply EvOps.keep (h' := h) (d' := false) (fun fr => fr.length = 74 ∧ slotAt fr 0 = some (strs (x :: xs)) ∧ slotAt fr 1 = some (strs ([] : List S)) ∧ slotAt fr 2 = some (.func (.func g) [] []) ∧ slotAt fr 7 = some out ∧ slotAt fr 18 = some (.bool true))
        · intro call; simp [hl, h0, h1, strs]; exact rfl
        · exact ⟨by simp [hl, h0, h1, h2, h7, strs], by simp [hl, h0, h1, h2, h7, strs], by simp [hl, h0, h1, h2, h7, strs], by simp [hl, h0, h1, h2, h7, strs], by simp [hl, h0, h1, h2, h7, strs], by simp [hl, h0, h1, h2, h7, strs]⟩
        clear hl h0 h1 h2 h7
        rintro fr ⟨hl, h0, h1, h2, h7, g18⟩
        refine Ev.cond true (by simp [g18]) (fun _ => Ev.skip ?_) (fun h => by simp at h)
        clear g18
        refine Ev.block (Ev.seq (Ev.region ?_))
        apply EvOps.keep (h' := h) (d' := false) (fun fr => fr.length = 74 ∧ slotAt fr 0 = some (strs (x :: xs)) ∧ slotAt fr 1 = some (strs ([] : List S)) ∧ slotAt fr 2 = some (.func (.func g) [] []) ∧ slotAt fr 7 = some out ∧ slotAt fr 8 = some (.bool true))
        · intro call; simp [hl, h0, h1, strs]; exact rfl
        · exact ⟨by simp [hl, h0, h1, h2, h7, strs], by simp [hl, h0, h1, h2, h7, strs], by simp [hl, h0, h1, h2, h7, strs], by simp [hl, h0, h1, h2, h7, strs], by simp [hl, h0, h1, h2, h7, strs], by simp [hl, h0, h1, h2, h7, strs]⟩
        clear hl h0 h1 h2 h7
        rintro fr ⟨hl, h0, h1, h2, h7, g8⟩
        refine Ev.seq (Ev.region ?_)
        apply EvOps.keep (h' := h) (d' := false) (fun fr => fr.length = 74 ∧ slotAt fr 0 = some (strs (x :: xs)) ∧ slotAt fr 1 = some (strs ([] : List S)) ∧ slotAt fr 2 = some (.func (.func g) [] []) ∧ slotAt fr 7 = some out ∧ slotAt fr 8 = some (.bool true) ∧ slotAt fr 9 = some (.bool false))
        · intro call; simp [hl, h0, h1, strs, g8]; exact rfl
        · exact ⟨by simp [hl, h0, h1, h2, h7, strs, g8], by simp [hl, h0, h1, h2, h7, strs, g8], by simp [hl, h0, h1, h2, h7, strs, g8], by simp [hl, h0, h1, h2, h7, strs, g8], by simp [hl, h0, h1, h2, h7, strs, g8], by simp [hl, h0, h1, h2, h7, strs, g8], by simp [hl, h0, h1, h2, h7, strs, g8]⟩
        clear hl h0 h1 h2 h7  g8
        rintro fr ⟨hl, h0, h1, h2, h7, g8, g9⟩
        refine Ev.seq (Ev.region ?_)
        apply EvOps.run
        · intro call; simp [hl]; exact rfl
        refine Ev.seq (Ev.seq (Ev.region ?_))
        apply EvOps.run
        · intro call; simp [hl, g8]; exact rfl
        refine Ev.cond true (by simp [hl]) (fun _ => Ev.region ?_) (fun h => by simp at h)
        apply EvOps.run
        · intro call; simp [hl, h0, h1, strs, sliceA]; exact rfl
        refine Ev.seq (Ev.seq (Ev.region ?_))
        apply EvOps.run
        · intro call; simp [hl, g9]; exact rfl
        refine Ev.cond false (by simp [hl]) (fun h => by simp at h) (fun _ => Ev.skip ?_)
        refine Ev.seq (Ev.region (EvOps.take 3 ?_))
        apply EvOps.run
        · intro call; simp [hl, h2, g8, g9]; exact rfl
        refine EvOps.callv (g := g) (first := []) (captured := []) rfl (by simp [hl]) (by simp) (by simp [hl] <;> exact rfl) (by simp <;> exact rfl) (hk true false) (EvOps.nil ?_)
        refine Ev.cond (k true false) (by simp [hl]) (fun he => ?_) (fun he => Ev.skip ?_)
        · refine Ev.region (EvOps.take 3 ?_)
          apply EvOps.run
          · intro call; simp [hl, h7, buildSliceA]; exact rfl
          refine EvOps.append rfl rfl (by simp) (by simp [hl]; exact rfl) Try.underlying24 Try.underlying24 rfl Ty.s9 Ty.b9 Ty.z9 rfl hg (headOk_strs _) (ys := [.str x]) (by simp [elemsA, headOk_cons]) (by simp only [List.length_map, List.length_cons, List.length_nil] at hlen ⊢; omega) ?_
          intro out1 h1' hg1 _
          apply EvOps.run
          · intro call; simp [hl]; exact rfl
          have hg2 : Grow 1 h1' out1 ((acc ++ [x]).map .str) := by simpa using hg1
          exact ⟨xs.length + ([] : List S).length, by simp only [List.length_cons, List.length_nil]; omega, _, _, out1, xs, ([] : List S), acc ++ [x], rfl, by simp [hl], by simp [hl, h0, strs], by simp [hl, h1, strs], by simp [h2], by simp [hl, h7], hg2, rfl, by rw [← hm]; simp [mergeS, keepIf, he], by simp only [List.length_append, List.length_cons, List.length_nil] at hlen ⊢; omega⟩
        · exact ⟨xs.length + ([] : List S).length, by simp only [List.length_cons, List.length_nil]; omega, _, _, out, xs, ([] : List S), acc, rfl, by simp [hl], by simp [hl, h0, strs], by simp [hl, h1, strs], by simp [h2], by simp [hl, h7], hg, rfl, by rw [← hm]; simp [mergeS, keepIf, he], by simp only [List.length_cons, List.length_nil] at hlen ⊢; omega⟩
      | cons y ys =>
        cases q1 : Op.bytesLess x y with
        | true =>
          have q2 := lt_asymm q1
          have q3 : (y == x) = false := by simpa using (lt_ne q1).symm
          refine Ev.seq (Ev.seq (Ev.region ?_))
          apply EvOps.keep (h' := h) (d' := false) (fun fr => fr.length = 74 ∧ slotAt fr 0 = some (strs (x :: xs)) ∧ slotAt fr 1 = some (strs (y :: ys)) ∧ slotAt fr 2 = some (.func (.func g) [] []) ∧ slotAt fr 7 = some out ∧ slotAt fr 18 = some (.bool true))
          · intro call; simp [hl, h0, h1, strs, q1, q2, q3]; exact rfl
          · exact ⟨by simp [hl, h0, h1, h2, h7, strs], by simp [hl, h0, h1, h2, h7, strs], by simp [hl, h0, h1, h2, h7, strs], by simp [hl, h0, h1, h2, h7, strs], by simp [hl, h0, h1, h2, h7, strs], by simp [hl, h0, h1, h2, h7, strs]⟩
          clear hl h0 h1 h2 h7
          rintro fr ⟨hl, h0, h1, h2, h7, g18⟩
          refine Ev.cond true (by simp [g18]) (fun _ => Ev.skip ?_) (fun h => by simp at h)
          clear g18
          refine Ev.block (Ev.seq (Ev.region ?_))
          apply EvOps.keep (h' := h) (d' := false) (fun fr => fr.length = 74 ∧ slotAt fr 0 = some (strs (x :: xs)) ∧ slotAt fr 1 = some (strs (y :: ys)) ∧ slotAt fr 2 = some (.func (.func g) [] []) ∧ slotAt fr 7 = some out ∧ slotAt fr 8 = some (.bool true))
          · intro call; simp [hl, h0, h1, strs, q1, q2, q3]; exact rfl
          · exact ⟨by simp [hl, h0, h1, h2, h7, strs], by simp [hl, h0, h1, h2, h7, strs], by simp [hl, h0, h1, h2, h7, strs], by simp [hl, h0, h1, h2, h7, strs], by simp [hl, h0, h1, h2, h7, strs], by simp [hl, h0, h1, h2, h7, strs]⟩
          clear hl h0 h1 h2 h7
          rintro fr ⟨hl, h0, h1, h2, h7, g8⟩
          refine Ev.seq (Ev.region ?_)
          apply EvOps.keep (h' := h) (d' := false) (fun fr => fr.length = 74 ∧ slotAt fr 0 = some (strs (x :: xs)) ∧ slotAt fr 1 = some (strs (y :: ys)) ∧ slotAt fr 2 = some (.func (.func g) [] []) ∧ slotAt fr 7 = some out ∧ slotAt fr 8 = some (.bool true) ∧ slotAt fr 9 = some (.bool false))
          · intro call; simp [hl, h0, h1, strs, q1, q2, q3, g8]; exact rfl
          · exact ⟨by simp [hl, h0, h1, h2, h7, strs, g8], by simp [hl, h0, h1, h2, h7, strs, g8], by simp [hl, h0, h1, h2, h7, strs, g8], by simp [hl, h0, h1, h2, h7, strs, g8], by simp [hl, h0, h1, h2, h7, strs, g8], by simp [hl, h0, h1, h2, h7, strs, g8], by simp [hl, h0, h1, h2, h7, strs, g8]⟩
          clear hl h0 h1 h2 h7  g8
          rintro fr ⟨hl, h0, h1, h2, h7, g8, g9⟩
          refine Ev.seq (Ev.region ?_)
          apply EvOps.run
          · intro call; simp [hl]; exact rfl
          refine Ev.seq (Ev.seq (Ev.region ?_))
          apply EvOps.run
          · intro call; simp [hl, g8]; exact rfl
          refine Ev.cond true (by simp [hl]) (fun _ => Ev.region ?_) (fun h => by simp at h)
          apply EvOps.run
          · intro call; simp [hl, h0, h1, strs, sliceA]; exact rfl
          refine Ev.seq (Ev.seq (Ev.region ?_))
          apply EvOps.run
          · intro call; simp [hl, g9]; exact rfl
          refine Ev.cond false (by simp [hl]) (fun h => by simp at h) (fun _ => Ev.skip ?_)
          refine Ev.seq (Ev.region (EvOps.take 3 ?_))
          apply EvOps.run
          · intro call; simp [hl, h2, g8, g9]; exact rfl
          refine EvOps.callv (g := g) (first := []) (captured := []) rfl (by simp [hl]) (by simp) (by simp [hl] <;> exact rfl) (by simp <;> exact rfl) (hk true false) (EvOps.nil ?_)
          refine Ev.cond (k true false) (by simp [hl]) (fun he => ?_) (fun he => Ev.skip ?_)
          · refine Ev.region (EvOps.take 3 ?_)
            apply EvOps.run
            · intro call; simp [hl, h7, buildSliceA]; exact rfl
            refine EvOps.append rfl rfl (by simp) (by simp [hl]; exact rfl) Try.underlying24 Try.underlying24 rfl Ty.s9 Ty.b9 Ty.z9 rfl hg (headOk_strs _) (ys := [.str x]) (by simp [elemsA, headOk_cons]) (by simp only [List.length_map, List.length_cons, List.length_nil] at hlen ⊢; omega) ?_
            intro out1 h1' hg1 _
            apply EvOps.run
            · intro call; simp [hl]; exact rfl
            have hg2 : Grow 1 h1' out1 ((acc ++ [x]).map .str) := by simpa using hg1
            exact ⟨xs.length + (y :: ys).length, by simp only [List.length_cons, List.length_nil]; omega, _, _, out1, xs, (y :: ys), acc ++ [x], rfl, by simp [hl], by simp [hl, h0, strs], by simp [hl, h1, strs], by simp [h2], by simp [hl, h7], hg2, rfl, by rw [← hm]; simp [mergeS, keepIf, he, lt, q1], by simp only [List.length_append, List.length_cons, List.length_nil] at hlen ⊢; omega⟩
          · exact ⟨xs.length + (y :: ys).length, by simp only [List.length_cons, List.length_nil]; omega, _, _, out, xs, (y :: ys), acc, rfl, by simp [hl], by simp [hl, h0, strs], by simp [hl, h1, strs], by simp [h2], by simp [hl, h7], hg, rfl, by rw [← hm]; simp [mergeS, keepIf, he, lt, q1], by simp only [List.length_cons, List.length_nil] at hlen ⊢; omega⟩
        | false =>
          cases q2 : Op.bytesLess y x with
          | true =>
            have q3 : (x == y) = false := by simpa using (lt_ne q2).symm
            refine Ev.seq (Ev.seq (Ev.region ?_))
            apply EvOps.keep (h' := h) (d' := false) (fun fr => fr.length = 74 ∧ slotAt fr 0 = some (strs (x :: xs)) ∧ slotAt fr 1 = some (strs (y :: ys)) ∧ slotAt fr 2 = some (.func (.func g) [] []) ∧ slotAt fr 7 = some out ∧ slotAt fr 18 = some (.bool true))
            · intro call; simp [hl, h0, h1, strs, q1, q2, q3]; exact rfl
            · exact ⟨by simp [hl, h0, h1, h2, h7, strs], by simp [hl, h0, h1, h2, h7, strs], by simp [hl, h0, h1, h2, h7, strs], by simp [hl, h0, h1, h2, h7, strs], by simp [hl, h0, h1, h2, h7, strs], by simp [hl, h0, h1, h2, h7, strs]⟩
            clear hl h0 h1 h2 h7
            rintro fr ⟨hl, h0, h1, h2, h7, g18⟩
            refine Ev.cond true (by simp [g18]) (fun _ => Ev.skip ?_) (fun h => by simp at h)
            clear g18
            refine Ev.block (Ev.seq (Ev.region ?_))
            apply EvOps.keep (h' := h) (d' := false) (fun fr => fr.length = 74 ∧ slotAt fr 0 = some (strs (x :: xs)) ∧ slotAt fr 1 = some (strs (y :: ys)) ∧ slotAt fr 2 = some (.func (.func g) [] []) ∧ slotAt fr 7 = some out ∧ slotAt fr 8 = some (.bool false))
            · intro call; simp [hl, h0, h1, strs, q1, q2, q3]; exact rfl
            · exact ⟨by simp [hl, h0, h1, h2, h7, strs], by simp [hl, h0, h1, h2, h7, strs], by simp [hl, h0, h1, h2, h7, strs], by simp [hl, h0, h1, h2, h7, strs], by simp [hl, h0, h1, h2, h7, strs], by simp [hl, h0, h1, h2, h7, strs]⟩
            clear hl h0 h1 h2 h7
            rintro fr ⟨hl, h0, h1, h2, h7, g8⟩
            refine Ev.seq (Ev.region ?_)
            apply EvOps.keep (h' := h) (d' := false) (fun fr => fr.length = 74 ∧ slotAt fr 0 = some (strs (x :: xs)) ∧ slotAt fr 1 = some (strs (y :: ys)) ∧ slotAt fr 2 = some (.func (.func g) [] []) ∧ slotAt fr 7 = some out ∧ slotAt fr 8 = some (.bool false) ∧ slotAt fr 9 = some (.bool true))
            · intro call; simp [hl, h0, h1, strs, q1, q2, q3, g8]; exact rfl
            · exact ⟨by simp [hl, h0, h1, h2, h7, strs, g8], by simp [hl, h0, h1, h2, h7, strs, g8], by simp [hl, h0, h1, h2, h7, strs, g8], by simp [hl, h0, h1, h2, h7, strs, g8], by simp [hl, h0, h1, h2, h7, strs, g8], by simp [hl, h0, h1, h2, h7, strs, g8], by simp [hl, h0, h1, h2, h7, strs, g8]⟩
            clear hl h0 h1 h2 h7  g8
            rintro fr ⟨hl, h0, h1, h2, h7, g8, g9⟩
            refine Ev.seq (Ev.region ?_)
            apply EvOps.run
            · intro call; simp [hl]; exact rfl
            refine Ev.seq (Ev.seq (Ev.region ?_))
            apply EvOps.run
            · intro call; simp [hl, g8]; exact rfl
            refine Ev.cond false (by simp [hl]) (fun h => by simp at h) (fun _ => Ev.skip ?_)
            refine Ev.seq (Ev.seq (Ev.region ?_))
            apply EvOps.run
            · intro call; simp [hl, g9]; exact rfl
            refine Ev.cond true (by simp [hl]) (fun _ => Ev.region ?_) (fun h => by simp at h)
            apply EvOps.run
            · intro call; simp [hl, h0, h1, strs, sliceA]; exact rfl
            refine Ev.seq (Ev.region (EvOps.take 3 ?_))
            apply EvOps.run
            · intro call; simp [hl, h2, g8, g9]; exact rfl
            refine EvOps.callv (g := g) (first := []) (captured := []) rfl (by simp [hl]) (by simp) (by simp [hl] <;> exact rfl) (by simp <;> exact rfl) (hk false true) (EvOps.nil ?_)
            refine Ev.cond (k false true) (by simp [hl]) (fun he => ?_) (fun he => Ev.skip ?_)
            · refine Ev.region (EvOps.take 3 ?_)
              apply EvOps.run
              · intro call; simp [hl, h7, buildSliceA]; exact rfl
              refine EvOps.append rfl rfl (by simp) (by simp [hl]; exact rfl) Try.underlying24 Try.underlying24 rfl Ty.s9 Ty.b9 Ty.z9 rfl hg (headOk_strs _) (ys := [.str y]) (by simp [elemsA, headOk_cons]) (by simp only [List.length_map, List.length_cons, List.length_nil] at hlen ⊢; omega) ?_
              intro out1 h1' hg1 _
              apply EvOps.run
              · intro call; simp [hl]; exact rfl
              have hg2 : Grow 1 h1' out1 ((acc ++ [y]).map .str) := by simpa using hg1
              exact ⟨(x :: xs).length + ys.length, by simp only [List.length_cons, List.length_nil]; omega, _, _, out1, (x :: xs), ys, acc ++ [y], rfl, by simp [hl], by simp [hl, h0, strs], by simp [hl, h1, strs], by simp [h2], by simp [hl, h7], hg2, rfl, by rw [← hm]; simp [mergeS, keepIf, he, lt, q1, q2], by simp only [List.length_append, List.length_cons, List.length_nil] at hlen ⊢; omega⟩
            · exact ⟨(x :: xs).length + ys.length, by simp only [List.length_cons, List.length_nil]; omega, _, _, out, (x :: xs), ys, acc, rfl, by simp [hl], by simp [hl, h0, strs], by simp [hl, h1, strs], by simp [h2], by simp [hl, h7], hg, rfl, by rw [← hm]; simp [mergeS, keepIf, he, lt, q1, q2], by simp only [List.length_cons, List.length_nil] at hlen ⊢; omega⟩
          | false =>
            have q3 := lt_tri q1 q2
            subst q3
            refine Ev.seq (Ev.seq (Ev.region ?_))
            apply EvOps.keep (h' := h) (d' := false) (fun fr => fr.length = 74 ∧ slotAt fr 0 = some (strs (x :: xs)) ∧ slotAt fr 1 = some (strs (x :: ys)) ∧ slotAt fr 2 = some (.func (.func g) [] []) ∧ slotAt fr 7 = some out ∧ slotAt fr 18 = some (.bool true))
            · intro call; simp [hl, h0, h1, strs, q1]; exact rfl
            · exact ⟨by simp [hl, h0, h1, h2, h7, strs], by simp [hl, h0, h1, h2, h7, strs], by simp [hl, h0, h1, h2, h7, strs], by simp [hl, h0, h1, h2, h7, strs], by simp [hl, h0, h1, h2, h7, strs], by simp [hl, h0, h1, h2, h7, strs]⟩
            clear hl h0 h1 h2 h7
            rintro fr ⟨hl, h0, h1, h2, h7, g18⟩
            refine Ev.cond true (by simp [g18]) (fun _ => Ev.skip ?_) (fun h => by simp at h)
            clear g18
            refine Ev.block (Ev.seq (Ev.region ?_))
            apply EvOps.keep (h' := h) (d' := false) (fun fr => fr.length = 74 ∧ slotAt fr 0 = some (strs (x :: xs)) ∧ slotAt fr 1 = some (strs (x :: ys)) ∧ slotAt fr 2 = some (.func (.func g) [] []) ∧ slotAt fr 7 = some out ∧ slotAt fr 8 = some (.bool true))
            · intro call; simp [hl, h0, h1, strs, q1]; exact rfl
            · exact ⟨by simp [hl, h0, h1, h2, h7, strs], by simp [hl, h0, h1, h2, h7, strs], by simp [hl, h0, h1, h2, h7, strs], by simp [hl, h0, h1, h2, h7, strs], by simp [hl, h0, h1, h2, h7, strs], by simp [hl, h0, h1, h2, h7, strs]⟩
            clear hl h0 h1 h2 h7
            rintro fr ⟨hl, h0, h1, h2, h7, g8⟩
            refine Ev.seq (Ev.region ?_)
            apply EvOps.keep (h' := h) (d' := false) (fun fr => fr.length = 74 ∧ slotAt fr 0 = some (strs (x :: xs)) ∧ slotAt fr 1 = some (strs (x :: ys)) ∧ slotAt fr 2 = some (.func (.func g) [] []) ∧ slotAt fr 7 = some out ∧ slotAt fr 8 = some (.bool true) ∧ slotAt fr 9 = some (.bool true))
            · intro call; simp [hl, h0, h1, strs, q1, g8]; exact rfl
            · exact ⟨by simp [hl, h0, h1, h2, h7, strs, g8], by simp [hl, h0, h1, h2, h7, strs, g8], by simp [hl, h0, h1, h2, h7, strs, g8], by simp [hl, h0, h1, h2, h7, strs, g8], by simp [hl, h0, h1, h2, h7, strs, g8], by simp [hl, h0, h1, h2, h7, strs, g8], by simp [hl, h0, h1, h2, h7, strs, g8]⟩
            clear hl h0 h1 h2 h7  g8
            rintro fr ⟨hl, h0, h1, h2, h7, g8, g9⟩
            refine Ev.seq (Ev.region ?_)
            apply EvOps.run
            · intro call; simp [hl]; exact rfl
            refine Ev.seq (Ev.seq (Ev.region ?_))
            apply EvOps.run
            · intro call; simp [hl, g8]; exact rfl
            refine Ev.cond true (by simp [hl]) (fun _ => Ev.region ?_) (fun h => by simp at h)
            apply EvOps.run
            · intro call; simp [hl, h0, h1, strs, sliceA]; exact rfl
            refine Ev.seq (Ev.seq (Ev.region ?_))
            apply EvOps.run
            · intro call; simp [hl, g9]; exact rfl
            refine Ev.cond true (by simp [hl]) (fun _ => Ev.region ?_) (fun h => by simp at h)
            apply EvOps.run
            · intro call; simp [hl, h0, h1, strs, sliceA]; exact rfl
            refine Ev.seq (Ev.region (EvOps.take 3 ?_))
            apply EvOps.run
            · intro call; simp [hl, h2, g8, g9]; exact rfl
            refine EvOps.callv (g := g) (first := []) (captured := []) rfl (by simp [hl]) (by simp) (by simp [hl] <;> exact rfl) (by simp <;> exact rfl) (hk true true) (EvOps.nil ?_)
            refine Ev.cond (k true true) (by simp [hl]) (fun he => ?_) (fun he => Ev.skip ?_)
            · refine Ev.region (EvOps.take 3 ?_)
              apply EvOps.run
              · intro call; simp [hl, h7, buildSliceA]; exact rfl
              refine EvOps.append rfl rfl (by simp) (by simp [hl]; exact rfl) Try.underlying24 Try.underlying24 rfl Ty.s9 Ty.b9 Ty.z9 rfl hg (headOk_strs _) (ys := [.str x]) (by simp [elemsA, headOk_cons]) (by simp only [List.length_map, List.length_cons, List.length_nil] at hlen ⊢; omega) ?_
              intro out1 h1' hg1 _
              apply EvOps.run
              · intro call; simp [hl]; exact rfl
              have hg2 : Grow 1 h1' out1 ((acc ++ [x]).map .str) := by simpa using hg1
              exact ⟨xs.length + ys.length, by simp only [List.length_cons, List.length_nil]; omega, _, _, out1, xs, ys, acc ++ [x], rfl, by simp [hl], by simp [hl, h0, strs], by simp [hl, h1, strs], by simp [h2], by simp [hl, h7], hg2, rfl, by rw [← hm]; simp [mergeS, keepIf, he, lt, q1], by simp only [List.length_append, List.length_cons, List.length_nil] at hlen ⊢; omega⟩
            · exact ⟨xs.length + ys.length, by simp only [List.length_cons, List.length_nil]; omega, _, _, out, xs, ys, acc, rfl, by simp [hl], by simp [hl, h0, strs], by simp [hl, h1, strs], by simp [h2], by simp [hl, h7], hg, rfl, by rw [← hm]; simp [mergeS, keepIf, he, lt, q1], by simp only [List.length_cons, List.length_nil] at hlen ⊢; omega⟩
  · exact ⟨_, _, _, a0, b0, [], rfl, by simp, by simp, by simp, by simp, by simp, Grow.nils _ _, rfl, by simp, by simp⟩
end Go.Proofs.Ytnifldbmflkmpaa
