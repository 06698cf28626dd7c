/-
  The functions of the set laws, as the evaluator runs them.
-/
import Derived.Test.YtnifldbmflkmpaaCf
namespace Go.Proofs.Ytnifldbmflkmpaa
open Go Ev
set_option linter.unusedVariables false
set_option linter.unusedSimpArgs false
set_option maxRecDepth 10000
def hasS (ss : List S) (x : S) : Bool := ss.any (· == x)
theorem any_take_succ {α : Type} (p : α → Bool) (l : List α) (i : Nat) (h : i < l.length) : (l.take (i + 1)).any p = ((l.take i).any p || p l[i]) := by
  rw [List.take_add_one, List.getElem?_eq_getElem h, List.any_append]; simp only [Option.toList_some, List.any_cons, List.any_nil, Bool.or_false]
theorem has_ok (ss : List S) (x : S) (hb : ss.length < 2 ^ 60) : Ret cfg 53 [strs ss, .str x] (.bool (hasS ss x)) := by
  refine Ret.of_body rfl rfl Try.func53 rfl (by simp) (by simp) ?_
  refine Ev.seq (Ev.region ?_)
  apply EvOps.run
  · intro call; simp [Try.f53]; exact rfl
  refine Ev.seq (Ev.seq (Ev.region ?_))
  apply EvOps.run
  · intro call; simp; exact rfl
  refine Ev.block ?_
  refine Ev.loop (fun m st => ∃ fr i, st = ⟨fr, [], false⟩ ∧ fr.length = 18 ∧ slotAt fr 0 = some (strs ss) ∧ slotAt fr 1 = some (.str x) ∧ slotAt fr 5 = some (.int .i64 (i : Nat)) ∧ i ≤ ss.length ∧ m = ss.length - i ∧ (ss.take i).any (· == x) = false) ?_ ss.length _ ?_
  · rintro m st ⟨fr, i, rfl, hl, h0, h1, h5, hi, rfl, hp⟩
    refine Ev.seq (Ev.seq (Ev.region ?_))
    apply EvOps.run
    · intro call; simp [hl, h0, h1, h5, strs]; exact rfl
    refine Ev.cond _ (by simp [hl]; rfl) (fun hc => Ev.skip ?_) (fun hc => Ev.exit ?_)
    · simp at hc
      refine Ev.seq (Ev.block (Ev.seq (Ev.region ?_)))
      apply EvOps.run
      · intro call; simp [hl, h0, h1, h5, strs, hc]; exact rfl
      refine Ev.cond _ (by simp [hl]; rfl) (fun he => ?_) (fun he => Ev.skip ?_)
      · refine Ev.seq (Ev.region ?_)
        apply EvOps.run
        · intro call; simp [hl]; exact rfl
        refine Ev.ret ?_
        refine ⟨.bool true, by simp [hl], ?_⟩
        have : hasS ss x = true := by simp only [hasS, List.any_eq_true]; exact ⟨_, List.getElem_mem hc, he⟩
        rw [this, strip_bool]
      · refine Ev.region ?_
        apply EvOps.run
        · intro call; simp [hl, h5, wrap_succ i (by omega)]; exact rfl
        exact ⟨ss.length - (i + 1), by omega, _, i + 1, rfl, by simp [hl], by simp [h0], by simp [h1], by simp [hl], by omega, rfl, by rw [any_take_succ _ _ _ hc, hp, he]; rfl⟩
    · simp at hc
      refine Ev.seq (Ev.region ?_)
      apply EvOps.run
      · intro call; simp [hl]; exact rfl
      refine Ev.ret ⟨.bool false, by simp [hl], ?_⟩
      have : hasS ss x = false := by rw [← hp, hasS, List.take_of_length_le (by omega)]
      rw [this, strip_bool]
  · exact ⟨_, 0, rfl, by simp, by simp, by simp, by simp, by omega, rfl, by simp⟩

theorem less_ok (a b : S) (hb : a.length < 2 ^ 60) : Ret cfg 79 [.str a, .str b] (.bool (Op.bytesLess a b)) := by
  refine Ret.of_body rfl rfl Try.func79 rfl (by simp) (by simp) ?_
  refine Ev.seq (Ev.region ?_)
  apply EvOps.run
  · intro call; simp [Try.f79]; exact rfl
  refine Ev.seq (Ev.seq (Ev.region ?_))
  apply EvOps.run
  · intro call; simp; exact rfl
  refine Ev.block ?_
  refine Ev.loop (fun m st => ∃ fr i, st = ⟨fr, [], false⟩ ∧ fr.length = 37 ∧ slotAt fr 0 = some (.str a) ∧ slotAt fr 1 = some (.str b) ∧ slotAt fr 5 = some (.int .i64 (i : Nat)) ∧ i ≤ a.length ∧ i ≤ b.length ∧ m = a.length - i ∧ Op.bytesLess a b = Op.bytesLess (a.drop i) (b.drop i)) ?_ a.length _ ?_
  · rintro m st ⟨fr, i, rfl, hl, h0, h1, h5, hia, hib, rfl, hp⟩
    have fin : ∀ fr' : List AV, fr'.length = 37 → slotAt fr' 0 = some (.str a) → slotAt fr' 1 = some (.str b) → (i = a.length ∨ i = b.length) →
        Ev cfg 0 ((Try.f79.body.get rfl) |> fun c => match c with | .seq _ (.seq _ d) => d | _ => .skip) ⟨fr', [], false⟩ (Done cfg Try.f79 (.bool (Op.bytesLess a b))) := by
      intro fr' hl' g0 g1 hd
      refine Ev.seq (Ev.region ?_)
      apply EvOps.run
      · intro call; simp [hl', g0, g1]; exact rfl
      refine Ev.ret ⟨.bool (decide (a.length < b.length)), by simp [Try.f79, hl'], ?_⟩
      rw [strip_bool, hp]
      rcases hd with rfl | rfl
      · rw [List.drop_of_length_le (Nat.le_refl _)]
        cases hq : b.drop a.length with
        | nil => simp at hq; simp [Op.bytesLess]; omega
        | cons y l => have := congrArg List.length hq; simp at this; simp [Op.bytesLess]; omega
      · rw [List.drop_of_length_le (l := b) (Nat.le_refl _)]
        cases hq : a.drop b.length <;> simp [Op.bytesLess] <;> omega
    by_cases ha : i < a.length
    · refine Ev.seq (Ev.seq (Ev.region ?_))
      apply EvOps.run
      · intro call; simp [hl, h0, h1, h5, ha]; exact rfl
      refine Ev.cond _ (by simp [hl]; rfl) (fun hc => Ev.skip ?_) (fun hc => Ev.exit ?_)
      · simp at hc
        refine Ev.seq (Ev.block (Ev.seq (Ev.region ?_)))
        apply EvOps.run
        · intro call; simp [hl, h0, h1, h5, ha, hc]; exact rfl
        have hda : a.drop i = a[i] :: a.drop (i + 1) := List.drop_eq_getElem_cons ha
        have hdb : b.drop i = b[i] :: b.drop (i + 1) := List.drop_eq_getElem_cons hc
        refine Ev.cond _ (by simp [hl]; rfl) (fun he => ?_) (fun he => Ev.skip ?_)
        · refine Ev.seq (Ev.region ?_)
          apply EvOps.run
          · intro call; simp [hl, h0, h1, h5, ha, hc]; exact rfl
          refine Ev.ret ⟨_, by simp [hl]; rfl, ?_⟩
          rw [strip_bool, hp, hda, hdb]
          simp only [Op.bytesLess]
          have hne : (a[i] == b[i]) = false := by
            cases hq : a[i] == b[i] with
            | false => rfl
            | true => simp only [beq_iff_eq] at hq; simp [hq] at he
          simp [hne, UInt8.lt_iff_toNat_lt]
        · refine Ev.region ?_
          apply EvOps.run
          · intro call; simp [hl, h5, wrap_succ i (by omega)]; exact rfl
          refine ⟨a.length - (i + 1), by omega, _, i + 1, rfl, by simp [hl], by simp [h0], by simp [h1], by simp [hl], by omega, by omega, rfl, ?_⟩
          rw [hp, hda, hdb]
          have : a[i] = b[i] := by
            apply UInt8.toNat_inj.1
            have := he
            simp at this
            omega
          simp [Op.bytesLess, this]
      · simp at hc
        exact fin _ (by simp [hl]) (by simp [h0]) (by simp [h1]) (.inr (by omega))
    · refine Ev.seq (Ev.seq (Ev.region ?_))
      apply EvOps.run
      · intro call; simp [hl, h0, h1, h5, ha]; exact rfl
      refine Ev.cond _ (by simp [hl]; rfl) (fun hc => by simp at hc) (fun hc => Ev.exit ?_)
      exact fin _ (by simp [hl]) (by simp [h0]) (by simp [h1]) (.inl (by omega))
  · exact ⟨_, 0, rfl, by simp, by simp, by simp, by simp, by omega, by omega, rfl, by simp⟩
end Go.Proofs.Ytnifldbmflkmpaa
