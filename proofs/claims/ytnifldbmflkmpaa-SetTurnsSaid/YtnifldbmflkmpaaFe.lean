/-
  The functions of the set laws, as the evaluator runs them.
-/
import Derived.Test.YtnifldbmflkmpaaFd
namespace Go.Proofs.Ytnifldbmflkmpaa
open Go Ev
set_option linter.unusedVariables false
set_option linter.unusedSimpArgs false
set_option maxRecDepth 10000
theorem foldl_take_succ {α β : Type} (f : β → α → β) (b : β) (l : List α) (i : Nat) (h : i < l.length) : (l.take (i + 1)).foldl f b = f ((l.take i).foldl f b) l[i] := by
  rw [List.take_add_one, List.getElem?_eq_getElem h, List.foldl_append]; rfl
def addS (s : List S) (x : S) : List S := if x.length ≤ 300 then putS s x else s
def madeS (xs : List S) (n : Nat) : List S := (xs.take n).foldl addS []
theorem putS_length (s : List S) (x : S) : (putS s x).length ≤ s.length + 1 := by
  unfold putS
  split
  · omega
  · have := congrArg List.length (List.takeWhile_append_dropWhile (p := (lt · x)) (l := s))
    simp only [List.length_append, List.length_cons] at this ⊢
    omega
theorem mem_putS {s : List S} {x y : S} : y ∈ putS s x ↔ y ∈ s ∨ y = x := by
  unfold putS
  split
  · rename_i h
    simp only [hasS, List.any_eq_true, beq_iff_eq] at h
    obtain ⟨z, hz, rfl⟩ := h
    exact ⟨.inl, fun h => h.elim id (fun e => e ▸ hz)⟩
  · have hs := List.takeWhile_append_dropWhile (p := (lt · x)) (l := s)
    conv => rhs; rw [← hs]
    simp only [List.mem_append, List.mem_cons]
    constructor
    · rintro (h | h | h)
      · exact .inl (.inl h)
      · exact .inr h
      · exact .inl (.inr h)
    · rintro ((h | h) | h)
      · exact .inl h
      · exact .inr (.inr h)
      · exact .inr (.inl h)
theorem addS_length (s : List S) (x : S) : (addS s x).length ≤ s.length + 1 := by unfold addS; split; exact putS_length s x; omega
theorem fold_addS_length (l : List S) : ∀ s : List S, (l.foldl addS s).length ≤ s.length + l.length := by
  induction l with
  | nil => intro s; simp
  | cons a l ih => intro s; have := ih (addS s a); have := addS_length s a; simp only [List.foldl_cons, List.length_cons]; omega
theorem fold_addS_short (l : List S) : ∀ s : List S, (∀ x ∈ s, x.length ≤ 300) → ∀ x ∈ l.foldl addS s, x.length ≤ 300 := by
  induction l with
  | nil => intro s h; simpa using h
  | cons a l ih =>
    intro s h
    refine ih (addS s a) fun x hx => ?_
    unfold addS at hx
    split at hx
    · rename_i ha
      rcases mem_putS.1 hx with e | e
      · exact h x e
      · exact e ▸ ha
    · exact h x hx
theorem madeS_length (xs : List S) (n : Nat) : (madeS xs n).length ≤ n := by
  have := fold_addS_length (xs.take n) []
  simp only [List.length_nil, List.length_take] at this
  unfold madeS; omega
theorem madeS_short (xs : List S) (n : Nat) : ∀ x ∈ madeS xs n, x.length ≤ 300 := fold_addS_short _ [] (by simp)

theorem made_ok (xs : List S) (n : Nat) (hn : n ≤ 1000) : Ret cfg 15 [strs xs, .int .i64 (n : Nat)] (strs (madeS xs n)) := by
  refine Ret.of_body rfl rfl Try.func15 rfl (by simp) (by simp) ?_
  refine Ev.seq (Ev.region ?_)
  apply EvOps.run
  · intro call; simp [Try.f15]; exact rfl
  refine Ev.seq (Ev.region ?_)
  apply EvOps.run
  · intro call; simp; exact rfl
  refine Ev.seq (Ev.seq (Ev.region ?_))
  apply EvOps.run
  · intro call; simp; exact rfl
  refine Ev.block ?_
  refine Ev.loop (fun m st => ∃ fr i v, st = ⟨fr, [], false⟩ ∧ fr.length = 31 ∧ slotAt fr 0 = some (strs xs) ∧ slotAt fr 1 = some (.int .i64 (n : Nat)) ∧ slotAt fr 5 = some v ∧ v.strip = strs ((xs.take i).foldl addS []) ∧ slotAt fr 6 = some (.int .i64 (i : Nat)) ∧ i ≤ xs.length ∧ i ≤ n ∧ m = xs.length - i) ?_ xs.length _ ?_
  · rintro m st ⟨fr, i, v, rfl, hl, h0, h1, h5, hv, h6, hi, hin, rfl⟩
    have fin : ∀ fr' : List AV, fr'.length = 31 → slotAt fr' 5 = some v → (i = xs.length ∨ i = n) →
        Ev cfg 0 ((Try.f15.body.get rfl) |> fun c => match c with | .seq _ (.seq _ (.seq _ d)) => d | _ => .skip) ⟨fr', [], false⟩ (Done cfg Try.f15 (strs (madeS xs n))) := by
      intro fr' hl' g5 hd
      refine Ev.seq (Ev.region ?_)
      apply EvOps.run
      · intro call; simp [hl', g5]; exact rfl
      refine Ev.ret ⟨v, by simp [Try.f15, hl'], ?_⟩
      rw [hv]
      have : madeS xs n = (xs.take i).foldl addS [] := by
        rcases hd with rfl | rfl
        · rw [madeS, List.take_of_length_le hin, List.take_of_length_le (Nat.le_refl _)]
        · rfl
      rw [this]
    by_cases ha : i < xs.length
    · refine Ev.seq (Ev.seq (Ev.region ?_))
      apply EvOps.run
      · intro call; simp [hl, h0, h1, h5, h6, ha, strs]; exact rfl
      refine Ev.cond _ (by simp [hl]; rfl) (fun hc => Ev.skip ?_) (fun hc => Ev.exit ?_)
      · simp at hc
        refine Ev.seq (Ev.block (Ev.seq (Ev.region ?_)))
        apply EvOps.run
        · intro call; simp [hl, h0, h1, h5, h6, strs, ha]; exact rfl
        have nxt : ∀ (fr' : List AV) (v' : AV), fr'.length = 31 → slotAt fr' 0 = some (strs xs) → slotAt fr' 1 = some (.int .i64 (n : Nat)) → slotAt fr' 5 = some v' → slotAt fr' 6 = some (.int .i64 (i : Nat)) → v'.strip = strs ((xs.take (i + 1)).foldl addS []) →
            Ev cfg 0 ((Try.f15.body.get rfl) |> fun c => match c with | .seq _ (.seq _ (.seq (.seq _ (.block _ (.loop (.seq _ (.seq _ d))))) _)) => d | _ => .skip) ⟨fr', [], false⟩
              (onNormal (fun s => ∃ m', m' < xs.length - i ∧ ∃ fr i v, s = ⟨fr, [], false⟩ ∧ fr.length = 31 ∧ slotAt fr 0 = some (strs xs) ∧ slotAt fr 1 = some (.int .i64 (n : Nat)) ∧ slotAt fr 5 = some v ∧ v.strip = strs ((xs.take i).foldl addS []) ∧ slotAt fr 6 = some (.int .i64 (i : Nat)) ∧ i ≤ xs.length ∧ i ≤ n ∧ m' = xs.length - i) (fun _ _ => False)) := by
          intro fr' v' hl' g0 g1 g5 g6 hv'
          refine Ev.region ?_
          apply EvOps.run
          · intro call; simp [hl', g6, wrap_succ i (by omega)]; exact rfl
          exact ⟨xs.length - (i + 1), by omega, _, i + 1, v', rfl, by simp [hl'], by simp [g0], by simp [g1], by simp [g5], hv', by simp [hl'], by omega, by omega, rfl⟩
        refine Ev.cond (decide (xs[i].length ≤ 300)) (by simp [hl]; omega) (fun he => ?_) (fun he => Ev.skip ?_)
        · simp only [decide_eq_true_eq] at he
          refine Ev.region (EvOps.take 5 ?_)
          apply EvOps.run
          · intro call; simp [hl, h0, h1, h5, h6, strs, ha]; exact rfl
          refine EvOps.call rfl (by simp [hl]) (by simp [hl]; exact rfl) (by simp [hv] <;> exact ⟨rfl, rfl⟩) (put_ok ((xs.take i).foldl addS []) xs[i] ?_ ?_) ?_
          · have := fold_addS_length (xs.take i) []; simp at this; omega
          · intro s hs; have := fold_addS_short (xs.take i) [] (by simp) s hs; omega
          apply EvOps.run
          · intro call; simp [hl]; exact rfl
          refine (nxt _ _ (by simp [hl]) (by simp [h0]) (by simp [h1]) (by simp [hl]; rfl) (by simp [h6]) ?_).mono ?_
          · rw [strip_strs, foldl_take_succ _ _ _ _ ha]
            rw [show addS ((xs.take i).foldl addS []) xs[i] = putS ((xs.take i).foldl addS []) xs[i] from if_pos he]
          · intro x s hs; cases x <;> simp only [onNormal] at hs <;> exact hs
        · simp only [decide_eq_false_iff_not] at he
          refine (nxt _ v (by simp [hl]) (by simp [h0]) (by simp [h1]) (by simp [h5]) (by simp [h6]) ?_).mono ?_
          · rw [hv, foldl_take_succ _ _ _ _ ha]
            rw [show addS ((xs.take i).foldl addS []) xs[i] = ((xs.take i).foldl addS []) from if_neg he]
          · intro x s hs; cases x <;> simp only [onNormal] at hs <;> exact hs
      · simp at hc
        exact fin _ (by simp [hl]) (by simp [h5]) (.inr (by omega))
    · refine Ev.seq (Ev.seq (Ev.region ?_))
      apply EvOps.run
      · intro call; simp [hl, h0, h1, h5, h6, ha, strs]; exact rfl
      refine Ev.cond false (by simp [hl]) (fun hc => by simp at hc) (fun hc => Ev.exit ?_)
      exact fin _ (by simp [hl]) (by simp [h5]) (.inl (by omega))
  · exact ⟨_, 0, .nils, rfl, by simp, by simp, by simp, by simp, by simp [strs], by simp, by omega, by omega, rfl⟩
end Go.Proofs.Ytnifldbmflkmpaa
