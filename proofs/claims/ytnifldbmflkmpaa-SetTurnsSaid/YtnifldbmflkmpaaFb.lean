/-
  The functions of the set laws, as the evaluator runs them.
-/
import Derived.Test.YtnifldbmflkmpaaFa
namespace Go.Proofs.Ytnifldbmflkmpaa
open Go Ev
set_option linter.unusedVariables false
set_option linter.unusedSimpArgs false
set_option maxRecDepth 10000
abbrev lt (a b : S) : Bool := Op.bytesLess a b
def putS (ss : List S) (x : S) : List S := if hasS ss x then ss else ss.takeWhile (lt · x) ++ x :: ss.dropWhile (lt · x)
theorem split_at {α : Type} (p : α → Bool) : ∀ (l : List α) (i : Nat), i ≤ l.length → (l.take i).all p = true → (∀ h : i < l.length, p l[i] = false) → l.takeWhile p = l.take i ∧ l.dropWhile p = l.drop i
  | [], i, hi, _, _ => by simp at hi; subst hi; simp
  | a :: l, 0, _, _, hn => by have := hn (by simp); simp at this; simp [List.takeWhile_cons, List.dropWhile_cons, this]
  | a :: l, i + 1, hi, ha, hn => by
    simp only [List.take_succ_cons, List.all_cons, Bool.and_eq_true] at ha
    have := split_at p l i (by simpa using hi) ha.2 (fun h => by have := hn (by simpa using h); simpa using this)
    simp [List.takeWhile_cons, List.dropWhile_cons, ha.1, this]
theorem all_take_succ {α : Type} (p : α → Bool) (l : List α) (i : Nat) (h : i < l.length) : (l.take (i + 1)).all p = ((l.take i).all p && p l[i]) := by
  rw [List.take_add_one, List.getElem?_eq_getElem h, List.all_append]; simp only [Option.toList_some, List.all_cons, List.all_nil, Bool.and_true]
theorem map_take_succ (l : List S) (i : Nat) (h : i < l.length) : (l.take i).map AV.str ++ [.str l[i]] = (l.take (i + 1)).map .str := by
  rw [List.take_add_one, List.getElem?_eq_getElem h, List.map_append]; rfl

theorem put_ok (ss : List S) (x : S) (hb : ss.length < 2 ^ 40) (hx : ∀ s ∈ ss, s.length < 2 ^ 60) : Ret cfg 55 [strs ss, .str x] (strs (putS ss x)) := by
  refine Ret.of_body rfl rfl Try.func55 rfl (by simp) (by simp) ?_
  refine Ev.seq (Ev.region ?_)
  apply EvOps.run
  · intro call; simp [Try.f55]; exact rfl
  refine Ev.seq (Ev.seq (Ev.region (EvOps.take 2 ?_)))
  apply EvOps.run
  · intro call; simp; exact rfl
  refine EvOps.call rfl (by simp) (by simp; exact rfl) (by simp) (has_ok ss x (by omega)) (EvOps.nil ?_)
  refine Ev.cond _ (by simp; rfl) (fun hc => ?_) (fun hc => Ev.skip ?_)
  · refine Ev.seq (Ev.region ?_)
    apply EvOps.run
    · intro call; simp; exact rfl
    refine Ev.ret ⟨_, by simp; rfl, ?_⟩
    rw [putS, if_pos hc, strip_strs]
  refine Ev.seq (Ev.region ?_)
  apply EvOps.run
  · intro call; simp; exact rfl
  refine Ev.seq (Ev.region ?_)
  apply EvOps.run
  · intro call; simp; exact rfl
  refine Ev.seq (Ev.block ?_)
  refine Ev.loop (fun m st => ∃ fr h out i, st = ⟨fr, h, false⟩ ∧ fr.length = 41 ∧ slotAt fr 0 = some (strs ss) ∧ slotAt fr 1 = some (.str x) ∧ slotAt fr 5 = some out ∧ Grow 1 h out ((ss.take i).map .str) ∧ slotAt fr 6 = some (.int .i64 (i : Nat)) ∧ i ≤ ss.length ∧ m = ss.length - i ∧ (ss.take i).all (lt · x) = true) ?_ ss.length _ ?_
  · rintro m st ⟨fr, h, out, i, rfl, hl, h0, h1, h5, hg, h6, hi, rfl, hp⟩
    have fin : ∀ fr' : List AV, fr'.length = 41 → slotAt fr' 0 = some (strs ss) → slotAt fr' 1 = some (.str x) → slotAt fr' 5 = some out → slotAt fr' 6 = some (.int .i64 (i : Nat)) → (∀ h : i < ss.length, lt ss[i] x = false) →
        Ev cfg 0 ((Try.f55.body.get rfl) |> fun c => match c with | .seq _ (.seq _ (.seq _ (.seq _ (.seq _ d)))) => d | _ => .skip) ⟨fr', h, false⟩ (Done cfg Try.f55 (strs (putS ss x))) := by
      intro fr' hl' g0 g1 g5 g6 hd
      have hs := split_at (lt · x) ss i hi hp hd
      refine Ev.seq (Ev.region (EvOps.take 3 ?_))
      apply EvOps.run
      · intro call; simp [hl', g0, g1, g5, buildSliceA]; exact rfl
      refine EvOps.append rfl rfl (by simp) (by simp [hl', g5]; exact rfl) Try.underlying24 Try.underlying24 rfl Ty.s9 Ty.b9 Ty.z9 rfl hg (headOk_strs _) (ys := [.str x]) (by simp [elemsA]) (by simp; omega) ?_
      intro out1 h1 hg1 _
      apply EvOps.run
      · intro call; simp [hl']; exact rfl
      refine Ev.seq (Ev.region (EvOps.take 4 ?_))
      apply EvOps.run
      · intro call; simp [hl', g0, g6, sliceA, strs, show ((i : Nat) : Int) ≤ ss.length from by omega]; exact rfl
      have hg1' : Grow 1 h1 out1 ((ss.take i ++ [x]).map .str) := by simpa using hg1
      refine EvOps.append (ys := (ss.drop i).map .str) rfl rfl (by simp) (by simp [hl']; exact rfl) Try.underlying24 Try.underlying24 rfl Ty.s9 Ty.b9 Ty.z9 rfl hg1' (headOk_strs _) ?_ ?_ ?_
      · rw [← List.map_drop]; simp only [elemsA, headOk_strs, if_true]
      · simp; omega
      intro out2 h2 hg2 _
      apply EvOps.run
      · intro call; simp [hl']; exact rfl
      refine Ev.ret ⟨_, by simp [Try.f55, hl']; rfl, ?_⟩
      rw [hg2.strip, ← List.map_append, stripL_strs, putS, if_neg (by simpa using hc), hs.1, hs.2]
      simp [strs]
    by_cases ha : i < ss.length
    · refine Ev.seq (Ev.seq (Ev.region (EvOps.take 10 ?_)))
      apply EvOps.run
      · intro call; simp [hl, h0, h1, h5, h6, ha, strs]; exact rfl
      refine EvOps.call rfl (by simp [hl]) (by simp [hl]; exact rfl) (by simp <;> exact rfl) (less_ok _ x (hx _ (List.getElem_mem ha))) ?_
      apply EvOps.run
      · intro call; simp [hl]; exact rfl
      refine Ev.cond _ (by simp [hl]; rfl) (fun hq => Ev.skip ?_) (fun hq => Ev.exit ?_)
      · refine Ev.block (Ev.seq (Ev.region (EvOps.take 6 ?_)))
        apply EvOps.run
        · intro call; simp [hl, h0, h1, h5, h6, ha, strs, buildSliceA]; exact rfl
        refine EvOps.append rfl rfl (by simp) (by simp [hl]; exact rfl) Try.underlying24 Try.underlying24 rfl Ty.s9 Ty.b9 Ty.z9 rfl hg (headOk_strs _) (ys := [.str ss[i]]) (by simp [elemsA, headOk_cons]) (by simp; omega) ?_
        intro out1 h1' hg1 _
        apply EvOps.run
        · intro call; simp [hl]; exact rfl
        refine Ev.region ?_
        apply EvOps.run
        · intro call; simp [hl, h6, wrap_succ i (by omega)]; exact rfl
        rw [map_take_succ _ _ ha] at hg1
        exact ⟨ss.length - (i + 1), by omega, _, _, _, i + 1, rfl, by simp [hl], by simp [h0], by simp [h1], by simp [hl], hg1, by simp [hl], by omega, rfl, by rw [all_take_succ _ _ _ ha, hp, Bool.true_and]; exact hq⟩
      · exact fin _ (by simp [hl]) (by simp [h0]) (by simp [h1]) (by simp [h5]) (by simp [h6]) (fun _ => hq)
    · refine Ev.seq (Ev.seq (Ev.region ?_))
      apply EvOps.run
      · intro call; simp [hl, h0, h1, h5, h6, ha, strs]; exact rfl
      refine Ev.cond _ (by simp [hl]; rfl) (fun hq => by simp at hq) (fun hq => Ev.exit ?_)
      exact fin _ (by simp [hl]) (by simp [h0]) (by simp [h1]) (by simp [h5]) (by simp [h6]) (fun h => absurd h ha)
  · exact ⟨_, _, _, 0, rfl, by simp, by simp, by simp, by simp, Grow.nils _ _, by simp, by omega, rfl, by simp⟩
end Go.Proofs.Ytnifldbmflkmpaa
