/-
  The functions of the set laws, as the evaluator runs them.
-/
import Derived.Test.YtnifldbmflkmpaaFb
namespace Go.Proofs.Ytnifldbmflkmpaa
open Go Ev
set_option linter.unusedVariables false
set_option linter.unusedSimpArgs false
set_option maxRecDepth 10000
theorem clone_ok (ss : List S) (hb : ss.length < 2 ^ 36) : Ret cfg 58 [strs ss] (strs ss) := by
  refine Ret.of_prim (p := cloneA 1) rfl (by simp) ?_ (by simp)
  simp only [strs, cloneA, headOk_strs, List.length_map, true_and, stripL_strs]
  rw [if_pos (by omega)]
theorem either_ok (a b : Bool) : Ret cfg 57 [.bool a, .bool b] (.bool true) := by
  refine Ret.of_body rfl rfl Try.func57 rfl (by simp) (by simp) ?_
  refine Ev.seq (Ev.region ?_)
  apply EvOps.run
  · intro call; simp [Try.f57]; exact rfl
  refine Ev.seq (Ev.region ?_)
  apply EvOps.run
  · intro call; simp; exact rfl
  exact Ev.ret ⟨_, by simp; rfl, by simp⟩
theorem both_ok (a b : Bool) : Ret cfg 59 [.bool a, .bool b] (.bool (a && b)) := by
  refine Ret.of_body rfl rfl Try.func59 rfl (by simp) (by simp) ?_
  refine Ev.seq (Ev.region ?_)
  apply EvOps.run
  · intro call; simp [Try.f59]; exact rfl
  refine Ev.seq (Ev.region ?_)
  cases a <;>
  · apply EvOps.run
    · intro call; simp; exact rfl
    exact Ev.ret ⟨_, by simp; rfl, by simp⟩
theorem first_ok (a b : Bool) : Ret cfg 60 [.bool a, .bool b] (.bool (a && !b)) := by
  refine Ret.of_body rfl rfl Try.func60 rfl (by simp) (by simp) ?_
  refine Ev.seq (Ev.region ?_)
  apply EvOps.run
  · intro call; simp [Try.f60]; exact rfl
  refine Ev.seq (Ev.region ?_)
  cases a <;>
  · apply EvOps.run
    · intro call; simp; exact rfl
    exact Ev.ret ⟨_, by simp; rfl, by simp⟩

theorem take_ext (a b : List S) (hl : a.length = b.length) (h : a.take a.length = b.take a.length) : a = b := by
  rw [List.take_of_length_le (Nat.le_refl _), List.take_of_length_le (by omega)] at h; exact h
theorem words_ok (a b : List S) (hb : a.length < 2 ^ 60) : Ret cfg 18 [strs a, strs b] (.bool (a == b)) := by
  refine Ret.of_body rfl rfl Try.func18 rfl (by simp) (by simp) ?_
  refine Ev.seq (Ev.region ?_)
  apply EvOps.run
  · intro call; simp [Try.f18]; exact rfl
  refine Ev.seq (Ev.seq (Ev.region ?_))
  apply EvOps.run
  · intro call; simp [strs]; exact rfl
  refine Ev.cond _ (by simp; rfl) (fun hc => ?_) (fun hc => Ev.skip ?_)
  · refine Ev.seq (Ev.region ?_)
    apply EvOps.run
    · intro call; simp; exact rfl
    refine Ev.ret ⟨_, by simp; rfl, ?_⟩
    have : (a == b) = false := by
      cases hq : a == b with
      | false => rfl
      | true => simp only [beq_iff_eq] at hq; subst hq; simp at hc
    rw [this, strip_bool]
  have hlen : a.length = b.length := by simp at hc; omega
  refine Ev.seq (Ev.seq (Ev.region ?_))
  apply EvOps.run
  · intro call; simp; exact rfl
  refine Ev.block ?_
  refine Ev.loop (fun m st => ∃ fr i, st = ⟨fr, [], false⟩ ∧ fr.length = 26 ∧ slotAt fr 0 = some (strs a) ∧ slotAt fr 1 = some (strs b) ∧ slotAt fr 5 = some (.int .i64 (i : Nat)) ∧ i ≤ a.length ∧ m = a.length - i ∧ a.take i = b.take i) ?_ a.length _ ?_
  · rintro m st ⟨fr, i, rfl, hl, h0, h1, h5, hi, rfl, hp⟩
    refine Ev.seq (Ev.seq (Ev.region ?_))
    apply EvOps.run
    · intro call; simp [hl, h0, h1, h5, strs]; exact rfl
    refine Ev.cond _ (by simp [hl]; rfl) (fun hc => Ev.skip ?_) (fun hc => Ev.exit ?_)
    · simp at hc
      have hcb : i < b.length := by omega
      refine Ev.seq (Ev.block (Ev.seq (Ev.region ?_)))
      apply EvOps.run
      · intro call; simp [hl, h0, h1, h5, strs, hc, hcb]; exact rfl
      refine Ev.cond (!(a[i] == b[i])) (by simp [hl]) (fun he => ?_) (fun he => Ev.skip ?_)
      · refine Ev.seq (Ev.region ?_)
        apply EvOps.run
        · intro call; simp [hl]; exact rfl
        refine Ev.ret ⟨.bool false, by simp [hl], ?_⟩
        have : (a == b) = false := by
          cases hq : a == b with
          | false => rfl
          | true => simp only [beq_iff_eq] at hq; subst hq; simp at he
        rw [this, strip_bool]
      · refine Ev.region ?_
        apply EvOps.run
        · intro call; simp [hl, h5, wrap_succ i (by omega)]; exact rfl
        refine ⟨a.length - (i + 1), by omega, _, i + 1, rfl, by simp [hl], by simp [h0], by simp [h1], by simp [hl], by omega, rfl, ?_⟩
        have heq : a[i] = b[i] := by simpa using he
        rw [List.take_add_one, List.take_add_one, List.getElem?_eq_getElem hc, List.getElem?_eq_getElem hcb, hp, heq]
    · simp at hc
      refine Ev.seq (Ev.region ?_)
      apply EvOps.run
      · intro call; simp [hl]; exact rfl
      refine Ev.ret ⟨.bool true, by simp [hl], ?_⟩
      have : i = a.length := by omega
      subst this
      rw [take_ext a b hlen hp, strip_bool]
      simp
  · exact ⟨_, 0, rfl, by simp, by simp [strs], by simp [strs], by simp, by omega, rfl, by simp⟩

def withoutS (ss xs : List S) : List S := ss.filter (fun s => !hasS xs s)
theorem filter_take_succ {α : Type} (p : α → Bool) (l : List α) (i : Nat) (h : i < l.length) : (l.take (i + 1)).filter p = (l.take i).filter p ++ (if p l[i] then [l[i]] else []) := by
  rw [List.take_add_one, List.getElem?_eq_getElem h, List.filter_append]; simp [List.filter_cons]
theorem without_ok (ss xs : List S) (hb : ss.length < 2 ^ 40) (hx : xs.length < 2 ^ 60) : Ret cfg 51 [strs ss, strs xs] (strs (withoutS ss xs)) := by
  refine Ret.of_body rfl rfl Try.func51 rfl (by simp) (by simp) ?_
  refine Ev.seq (Ev.region ?_)
  apply EvOps.run
  · intro call; simp [Try.f51]; exact rfl
  refine Ev.seq (Ev.region ?_)
  apply EvOps.run
  · intro call; simp; exact rfl
  refine Ev.seq (Ev.seq (Ev.region ?_))
  apply EvOps.run
  · intro call; simp; exact rfl
  refine Ev.block ?_
  refine Ev.loop (fun m st => ∃ fr h out i, st = ⟨fr, h, false⟩ ∧ fr.length = 28 ∧ slotAt fr 0 = some (strs ss) ∧ slotAt fr 1 = some (strs xs) ∧ slotAt fr 5 = some out ∧ Grow 1 h out (((ss.take i).filter (fun s => !hasS xs s)).map .str) ∧ slotAt fr 6 = some (.int .i64 (i : Nat)) ∧ i ≤ ss.length ∧ m = ss.length - i) ?_ ss.length _ ?_
  · rintro m st ⟨fr, h, out, i, rfl, hl, h0, h1, h5, hg, h6, hi, rfl⟩
    refine Ev.seq (Ev.seq (Ev.region ?_))
    apply EvOps.run
    · intro call; simp [hl, h0, h1, h5, h6, strs]; exact rfl
    refine Ev.cond _ (by simp [hl]; rfl) (fun hc => Ev.skip ?_) (fun hc => Ev.exit ?_)
    · simp at hc
      refine Ev.seq (Ev.block (Ev.seq (Ev.region (EvOps.take 5 ?_))))
      apply EvOps.run
      · intro call; simp [hl, h0, h1, h5, h6, strs, hc]; exact rfl
      refine EvOps.call rfl (by simp [hl]) (by simp [hl]; exact rfl) (by simp <;> exact rfl) (has_ok xs ss[i] hx) ?_
      apply EvOps.run
      · intro call; simp [hl]; exact rfl
      have hlf : ((ss.take i).filter (fun s => !hasS xs s)).length ≤ i := by
        refine Nat.le_trans (List.length_filter_le _ _) ?_
        simp; omega
      have nxt : ∀ (fr' : List AV) (h' : Heap) (out' : AV), fr'.length = 28 → slotAt fr' 0 = some (strs ss) → slotAt fr' 1 = some (strs xs) → slotAt fr' 5 = some out' → slotAt fr' 6 = some (.int .i64 (i : Nat)) → Grow 1 h' out' (((ss.take (i + 1)).filter (fun s => !hasS xs s)).map .str) →
          Ev cfg 0 ((Try.f51.body.get rfl) |> fun c => match c with | .seq _ (.seq _ (.seq (.seq _ (.block _ (.loop (.seq _ (.seq _ d))))) _)) => d | _ => .skip) ⟨fr', h', false⟩
            (onNormal (fun s => ∃ m', m' < ss.length - i ∧ ∃ fr h out i, s = ⟨fr, h, false⟩ ∧ fr.length = 28 ∧ slotAt fr 0 = some (strs ss) ∧ slotAt fr 1 = some (strs xs) ∧ slotAt fr 5 = some out ∧ Grow 1 h out (((ss.take i).filter (fun s => !hasS xs s)).map .str) ∧ slotAt fr 6 = some (.int .i64 (i : Nat)) ∧ i ≤ ss.length ∧ m' = ss.length - i) (fun _ _ => False)) := by
        intro fr' h' out' hl' g0 g1 g5 g6 hg'
        refine Ev.region ?_
        apply EvOps.run
        · intro call; simp [hl', g6, wrap_succ i (by omega)]; exact rfl
        exact ⟨ss.length - (i + 1), by omega, _, _, _, i + 1, rfl, by simp [hl'], by simp [g0], by simp [g1], by simp [g5], hg', by simp [hl'], by omega, rfl⟩
      refine Ev.cond (!(hasS xs ss[i])) (by simp [hl]) (fun he => ?_) (fun he => Ev.skip ?_)
      · refine Ev.region (EvOps.take 6 ?_)
        apply EvOps.run
        · intro call; simp [hl, h0, h1, h5, h6, strs, hc, buildSliceA]; exact rfl
        refine EvOps.append rfl rfl (by simp) (by simp [hl]; exact rfl) Try.underlying24 Try.underlying24 rfl Ty.s9 Ty.b9 Ty.z9 rfl hg (headOk_strs _) (ys := [.str ss[i]]) (by simp [elemsA, headOk_cons]) (by simp only [List.length_map, List.length_singleton]; omega) ?_
        intro out1 h1' hg1 _
        apply EvOps.run
        · intro call; simp [hl]; exact rfl
        refine (nxt _ _ out1 (by simp [hl]) (by simp [h0]) (by simp [h1]) (by simp [hl]) (by simp [h6]) ?_).mono ?_
        · rw [filter_take_succ _ _ _ hc, he]; simpa using hg1
        · intro x s hs; cases x <;> simp only [onNormal] at hs <;> exact hs
      · refine (nxt _ _ out (by simp [hl]) (by simp [h0]) (by simp [h1]) (by simp [h5]) (by simp [h6]) ?_).mono ?_
        · rw [filter_take_succ _ _ _ hc, he]; simpa using hg
        · intro x s hs; cases x <;> simp only [onNormal] at hs <;> exact hs
    · simp at hc
      refine Ev.seq (Ev.region ?_)
      apply EvOps.run
      · intro call; simp [hl, h5]; exact rfl
      refine Ev.ret ⟨_, by simp [Try.f51, hl]; rfl, ?_⟩
      rw [hg.strip, stripL_strs, List.take_of_length_le (by omega)]
      rfl
  · exact ⟨_, _, _, 0, rfl, by simp, by simp, by simp, by simp, Grow.nils _ _, by simp, by omega, rfl⟩
end Go.Proofs.Ytnifldbmflkmpaa
