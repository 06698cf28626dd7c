/-
  glob.Match: it answers whether the parts fit the text.
-/
import Derived.Test.YtnifldbmflkmpaaPc
namespace Go.Proofs.Ytnifldbmflkmpaa
open Go Ev
set_option linter.unusedVariables false
set_option linter.unusedSimpArgs false
set_option maxRecDepth 10000
theorem aPt_get (l : List Pt) (i : Nat) (h : i < l.length) : (l.map aPt)[i]? = some (aPt l[i]) := by simp [h]
/-- What holds between two rounds: a star (at place a - 1), the text behind it from 'back' on. -/
def Mid (l : List Pt) (s : S) (a back i at_ : Nat) : Prop :=
  (a = 0 ∧ (Fit l s ↔ Fit (l.drop i) (s.drop at_))) ∨
  (0 < a ∧ ∃ m, l.drop a = m ++ l.drop i ∧ Seg m (s.drop back) ∧ back + m.length = at_ ∧ a + m.length = i ∧ (Fit l s ↔ Fit (.any :: (m ++ l.drop i)) (s.drop back)))
theorem Mid.star {l : List Pt} {s : S} {a back i at_ : Nat} (h : Mid l s a back i at_) (hi : i < l.length) (hp : l[i].isAny = true) : Mid l s (i + 1) at_ (i + 1) at_ := by
  have hany : l[i] = .any := by
    cases e : l[i] with
    | any => rfl
    | q => rw [e] at hp; cases hp
    | lit c n => rw [e] at hp; cases hp
  have hd : l.drop i = .any :: l.drop (i + 1) := by rw [List.drop_eq_getElem_cons hi, hany]
  refine .inr ⟨by omega, [], by simp, by simp [Seg], by simp, by simp, ?_⟩
  rw [List.nil_append, ← hd]
  rcases h with ⟨_, h⟩ | ⟨_, m, h1, h2, h3, h4, h5⟩
  · exact h
  · rw [h5, hd, greedy _ _ _ h2, List.drop_drop, h3]
theorem Mid.hit {l : List Pt} {s : S} {a back i at_ : Nat} (h : Mid l s a back i at_) (hi : i < l.length) (ha : at_ < s.length) (hp : l[i].fits s[at_] = true) : Mid l s a back (i + 1) (at_ + 1) := by
  have hd : l.drop i = l[i] :: l.drop (i + 1) := List.drop_eq_getElem_cons hi
  have hs : s.drop at_ = s[at_] :: s.drop (at_ + 1) := List.drop_eq_getElem_cons ha
  rcases h with ⟨h0, h⟩ | ⟨h0, m, h1, h2, h3, h4, h5⟩
  · refine .inl ⟨h0, ?_⟩
    rw [h, hd, hs, fit_one _ (fits_not_any hp)]
    constructor
    · rintro ⟨b, s', e, _, q⟩
      simp only [List.cons.injEq] at e
      obtain ⟨rfl, rfl⟩ := e
      exact q
    · intro q; exact ⟨_, _, rfl, hp, q⟩
  · refine .inr ⟨h0, m ++ [l[i]], by rw [h1, hd]; simp, ?_, by simp; omega, by simp; omega, by rw [h5, hd]; simp⟩
    refine seg_snoc m _ _ (by rw [List.length_drop]; omega) h2 ?_
    rw [List.getElem_drop]
    simpa only [h3] using hp
theorem Mid.back {l : List Pt} {s : S} {a back i at_ : Nat} (h : Mid l s a back i at_) (ha0 : 0 < a) (hi : i ≤ l.length) (ha : at_ < s.length) (hno : ∀ (h : i < l.length), l[i].isAny = false ∧ l[i].fits s[at_] = false) : Mid l s a (back + 1) a (back + 1) := by
  have hs : s.drop at_ = s[at_] :: s.drop (at_ + 1) := List.drop_eq_getElem_cons ha
  rcases h with ⟨h0, h⟩ | ⟨h0, m, h1, h2, h3, h4, h5⟩
  · omega
  · refine .inr ⟨h0, [], by simp, by simp [Seg], by simp, by simp, ?_⟩
    rw [h5, ← h1, List.nil_append, star_next _ _ _ (by omega), h1, fit_seg _ _ _ (seg_noAny h2), List.drop_drop, h3]
    constructor
    · rintro (⟨_, q⟩ | q)
      · exfalso
        by_cases hlt : i < l.length
        · obtain ⟨n1, n2⟩ := hno hlt
          rw [List.drop_eq_getElem_cons hlt, hs, fit_one _ n1] at q
          obtain ⟨b, s', e, q1, _⟩ := q
          simp only [List.cons.injEq] at e
          rw [← e.1, n2] at q1
          cases q1
        · rw [List.drop_of_length_le (by omega), hs] at q
          simp [Fit] at q
          omega
      · exact q
    · intro q; exact .inr q
theorem Mid.dead {l : List Pt} {s : S} {back i at_ : Nat} (h : Mid l s 0 back i at_) (hi : i ≤ l.length) (ha : at_ < s.length) (hno : ∀ (h : i < l.length), l[i].isAny = false ∧ l[i].fits s[at_] = false) : ¬ Fit l s := by
  have hs : s.drop at_ = s[at_] :: s.drop (at_ + 1) := List.drop_eq_getElem_cons ha
  rcases h with ⟨_, h⟩ | ⟨h0, _⟩
  · rw [h]
    intro q
    by_cases hlt : i < l.length
    · obtain ⟨n1, n2⟩ := hno hlt
      rw [List.drop_eq_getElem_cons hlt, hs, fit_one _ n1] at q
      obtain ⟨b, s', e, q1, _⟩ := q
      simp only [List.cons.injEq] at e
      rw [← e.1, n2] at q1
      cases q1
    · rw [List.drop_of_length_le (by omega), hs] at q
      simp [Fit] at q
      omega
  · omega
theorem Mid.end {l : List Pt} {s : S} {a back i at_ : Nat} (h : Mid l s a back i at_) (ha : at_ = s.length) (hb : back ≤ s.length) : Fit l s ↔ (l.drop i).all Pt.isAny = true := by
  rcases h with ⟨_, h⟩ | ⟨_, m, h1, h2, h3, h4, h5⟩
  · rw [h, show s.drop at_ = [] from List.drop_of_length_le (by omega), fit_nil]
  · rw [h5, endstar _ _ _ h2 (by rw [List.length_drop]; omega), fit_nil]
set_option maxHeartbeats 4000000 in
theorem match_ok (p s : S) (l : List Pt) (hps : Parses p l) (hp : p.length ≤ 2 ^ 20) (hs : s.length < 2 ^ 60) (v : Bool) (hv : v = true ↔ Fit l s) : Ret cfg 37 [.str p, .str s] (.bool v) := by
  have hll := parses_len hps
  have hpo := parts_ok p l hps hp
  refine Ret.of_body rfl rfl Try.func37 rfl (by simp) (by simp) ?_
  refine Ev.seq (Ev.region ?_)
  apply EvOps.run
  · intro call; simp [Try.f37]; exact rfl
  refine Ev.seq (Ev.region (EvOps.take 1 ?_))
  apply EvOps.run
  · intro call; simp; exact rfl
  refine EvOps.call rfl (by simp) (by simp <;> exact rfl) (by simp <;> exact rfl) hpo ?_
  apply EvOps.run
  · intro call; simp; exact rfl
  refine Ev.seq (Ev.region ?_)
  apply EvOps.run
  · intro call; simp; exact rfl
  refine Ev.seq (Ev.region ?_)
  apply EvOps.run
  · intro call; simp; exact rfl
  -- the end: only stars are left
  have tail : ∀ (fr : List AV) (a i : Nat), fr.length = 76 → slotAt fr 5 = some (.L (l.map aPt)) → slotAt fr 8 = some (.int .i64 (i : Nat)) → i ≤ l.length → (Fit l s ↔ (l.drop i).all Pt.isAny = true) →
      Ev cfg 0 ((Try.f37.body.get rfl) |> fun c => match c with | .seq _ (.seq _ (.seq _ (.seq _ (.seq _ c)))) => c | _ => .skip) ⟨fr, [], false⟩ (Done cfg Try.f37 (.bool v)) := by
    intro fr a i hl h5 h8 hi hfit
    refine Ev.seq (Ev.block ?_)
    refine Ev.loop (fun m st => ∃ fr i, st = ⟨fr, [], false⟩ ∧ fr.length = 76 ∧ slotAt fr 5 = some (.L (l.map aPt)) ∧ slotAt fr 8 = some (.int .i64 (i : Nat)) ∧ i ≤ l.length ∧ m = l.length - i ∧ (Fit l s ↔ (l.drop i).all Pt.isAny = true)) ?_ (l.length - i) _ ?_
    · clear hl h5 h8 hi hfit fr i
      rintro m st ⟨fr, i, rfl, hl, h5, h8, hi, rfl, hfit⟩
      have fin : ∀ fr : List AV, fr.length = 76 → slotAt fr 5 = some (.L (l.map aPt)) → slotAt fr 8 = some (.int .i64 (i : Nat)) → v = decide (i = l.length) →
          Ev cfg 0 ((Try.f37.body.get rfl) |> fun c => match c with | .seq _ (.seq _ (.seq _ (.seq _ (.seq _ (.seq _ c))))) => c | _ => .skip) ⟨fr, [], false⟩ (Done cfg Try.f37 (.bool v)) := by
        intro fr hl h5 h8 hvv
        refine Ev.seq (Ev.region ?_)
        apply EvOps.run
        · intro call; simp [hl, h5, h8]; exact rfl
        refine Ev.ret ⟨.bool ((i : Int) == (l.length : Int)), by simp [Try.f37, hl], ?_⟩
        rw [strip_bool, hvv]
        congr 1
        rw [Bool.eq_iff_iff, beq_iff_eq, decide_eq_true_eq]
        omega
      by_cases hc : i < l.length
      · have hg := aPt_get l i hc
        rw [List.drop_eq_getElem_cons hc, List.all_cons] at hfit
        refine Ev.seq (Ev.seq (Ev.region ?_))
        apply EvOps.run
        · intro call; simp [-List.getElem?_map, hl, h5, h8, hc, hg, aPt]; exact rfl
        refine Ev.cond l[i].isAny (by simp [hl]) (fun he => Ev.skip ?_) (fun he => Ev.exit ?_)
        · rw [he, Bool.true_and] at hfit
          refine Ev.block (Ev.region ?_)
          apply EvOps.run
          · intro call; simp [hl, h8, wrap_succ i (by omega)]; exact rfl
          exact ⟨l.length - (i + 1), by omega, _, i + 1, rfl, by simp [hl], by simp [h5], by simp [hl], by omega, rfl, hfit⟩
        · rw [he, Bool.false_and] at hfit
          refine fin _ (by simp [hl]) (by simp [h5]) (by simp [h8]) ?_
          rw [Bool.eq_iff_iff, hv, hfit, decide_eq_true_eq]
          constructor
          · intro h; cases h
          · intro h; omega
      · refine Ev.seq (Ev.seq (Ev.region ?_))
        apply EvOps.run
        · intro call; simp [hl, h5, h8, hc]; exact rfl
        refine Ev.cond false (by simp [hl]) (fun h => by simp at h) (fun _ => Ev.exit ?_)
        rw [List.drop_of_length_le (by omega)] at hfit
        refine fin _ (by simp [hl]) (by simp [h5]) (by simp [h8]) ?_
        rw [Bool.eq_iff_iff, hv, hfit, decide_eq_true_eq]
        simp
        omega
    · exact ⟨fr, i, rfl, hl, h5, h8, hi, rfl, hfit⟩
  refine Ev.seq (Ev.block ?_)
  refine Ev.loop (fun m st => ∃ (fr : List AV) (a back i at_ : Nat), st = ⟨fr, [], false⟩ ∧ fr.length = 76 ∧ slotAt fr 1 = some (.str s) ∧ slotAt fr 5 = some (.L (l.map aPt)) ∧ slotAt fr 6 = some (.int .i64 ((a : Int) - 1)) ∧ slotAt fr 7 = some (.int .i64 (back : Nat)) ∧ slotAt fr 8 = some (.int .i64 (i : Nat)) ∧ slotAt fr 9 = some (.int .i64 (at_ : Nat)) ∧ i ≤ l.length ∧ at_ ≤ s.length ∧ back ≤ at_ ∧ a ≤ i ∧ Mid l s a back i at_ ∧ m = meas s.length (l.length + 1 - a) (s.length - back) (s.length - at_)) ?_ (meas s.length (l.length + 1) s.length s.length) _ ?_
  · rintro m st ⟨fr, a, back, i, at_, rfl, hl, h1, h5, h6, h7, h8, h9, hi, hat, hba, hai, hmid, rfl⟩
    refine Ev.seq (Ev.seq (Ev.region ?_))
    apply EvOps.keep (h' := []) (d' := false) (fun fr => fr.length = 76 ∧ slotAt fr 1 = some (.str s) ∧ slotAt fr 5 = some (.L (l.map aPt)) ∧ slotAt fr 6 = some (.int .i64 ((a : Int) - 1)) ∧ slotAt fr 7 = some (.int .i64 (back : Nat)) ∧ slotAt fr 8 = some (.int .i64 (i : Nat)) ∧ slotAt fr 9 = some (.int .i64 (at_ : Nat)) ∧ slotAt fr 15 = some (.bool (decide (at_ < s.length))))
    · intro call; simp [hl, h1, h9]; exact rfl
    · exact ⟨by simp [hl], by simp [h1], by simp [h5], by simp [h6], by simp [h7], by simp [h8], by simp [h9], by simp [hl]⟩
    clear hl h1 h5 h6 h7 h8 h9 fr
    rintro fr ⟨hl, h1, h5, h6, h7, h8, h9, h15⟩
    refine Ev.cond (decide (at_ < s.length)) (by simp only [op_tmp, h15]) (fun hc => Ev.skip ?_) (fun hc => Ev.exit ?_)
    · simp only [decide_eq_true_eq] at hc
      have hsg : s[at_]? = some s[at_] := List.getElem?_eq_getElem hc
      refine Ev.block (Ev.block (Ev.mid (fun st => ∃ fr, st = ⟨fr, [], false⟩ ∧ fr.length = 76 ∧ slotAt fr 1 = some (.str s) ∧ slotAt fr 5 = some (.L (l.map aPt)) ∧ slotAt fr 6 = some (.int .i64 ((a : Int) - 1)) ∧ slotAt fr 7 = some (.int .i64 (back : Nat)) ∧ slotAt fr 8 = some (.int .i64 (i : Nat)) ∧ slotAt fr 9 = some (.int .i64 (at_ : Nat)) ∧ slotAt fr 16 = some (.bool (if h : i < l.length then l[i].isAny else false))) ?_ ?_))
      · refine Ev.region ?_
        by_cases hil : i < l.length
        · have hg := aPt_get l i hil
          apply EvOps.run
          · intro call; simp [-List.getElem?_map, hl, h5, h8, hil, hg, aPt]; exact rfl
          exact ⟨_, rfl, by simp [hl], by simp [h1], by simp [h5], by simp [h6], by simp [h7], by simp [h8], by simp [h9], by simp [hl, hil]⟩
        · apply EvOps.run
          · intro call; simp [hl, h5, h8, hil]; exact rfl
          exact ⟨_, rfl, by simp [hl], by simp [h1], by simp [h5], by simp [h6], by simp [h7], by simp [h8], by simp [h9], by simp [hl, hil]⟩
      clear hl h1 h5 h6 h7 h8 h9 h15 fr
      rintro _ ⟨fr, rfl, hl, h1, h5, h6, h7, h8, h9, h16⟩
      refine Ev.cond (if h : i < l.length then l[i].isAny else false) (by simp only [op_tmp, h16]) (fun he => ?_) (fun hna => ?_)
      · have hil : i < l.length := by
          by_cases h : i < l.length
          · exact h
          · rw [dif_neg h] at he; cases he
        rw [dif_pos hil] at he
        refine Ev.seq (Ev.region ?_)
        apply EvOps.run
        · intro call; simp [hl, h8, h9]; exact rfl
        refine Ev.region ?_
        apply EvOps.run
        · intro call; simp [hl, h8, wrap_succ i (by omega)]; exact rfl
        refine ⟨_, ?_, _, i + 1, at_, i + 1, at_, rfl, by simp [hl], by simp [h1], by simp [h5], by simp [hl], by simp [hl], by simp [hl], by simp [h9], by omega, by omega, Nat.le_refl _, Nat.le_refl _, hmid.star hil he, rfl⟩
        exact meas1 (by omega) (by omega) (by omega)
      · refine Ev.mid (fun st => ∃ fr, st = ⟨fr, [], false⟩ ∧ fr.length = 76 ∧ slotAt fr 1 = some (.str s) ∧ slotAt fr 5 = some (.L (l.map aPt)) ∧ slotAt fr 6 = some (.int .i64 ((a : Int) - 1)) ∧ slotAt fr 7 = some (.int .i64 (back : Nat)) ∧ slotAt fr 8 = some (.int .i64 (i : Nat)) ∧ slotAt fr 9 = some (.int .i64 (at_ : Nat)) ∧ slotAt fr 32 = some (.bool (if h : i < l.length then l[i].fits s[at_] else false))) ?_ ?_
        · refine Ev.region ?_
          by_cases hil : i < l.length
          · have hg := aPt_get l i hil
            have hf := fits_ok l[i] s[at_]
            refine EvOps.take 12 ?_
            apply EvOps.run
            · intro call; simp [-List.getElem?_map, hl, h1, h5, h8, h9, hil, hg, hsg, aPt]; exact rfl
            refine EvOps.call rfl (by simp [hl]) (by simp [hl] <;> exact rfl) (by simp [aPt] <;> exact ⟨rfl, rfl⟩) hf ?_
            apply EvOps.run
            · intro call; simp [hl]; exact rfl
            exact ⟨_, rfl, by simp [hl], by simp [h1], by simp [h5], by simp [h6], by simp [h7], by simp [h8], by simp [h9], by simp [hl, hil]⟩
          · apply EvOps.run
            · intro call; simp [hl, h5, h8, hil]; exact rfl
            exact ⟨_, rfl, by simp [hl], by simp [h1], by simp [h5], by simp [h6], by simp [h7], by simp [h8], by simp [h9], by simp [hl, hil]⟩
        clear hl h1 h5 h6 h7 h8 h9 h16 fr
        rintro _ ⟨fr, rfl, hl, h1, h5, h6, h7, h8, h9, h32⟩
        refine Ev.cond (if h : i < l.length then l[i].fits s[at_] else false) (by simp only [op_tmp, h32]) (fun he => ?_) (fun hnf => ?_)
        · have hil : i < l.length := by
            by_cases h : i < l.length
            · exact h
            · rw [dif_neg h] at he; cases he
          rw [dif_pos hil] at he
          refine Ev.seq (Ev.region ?_)
          apply EvOps.run
          · intro call; simp [hl, h8, wrap_succ i (by omega)]; exact rfl
          refine Ev.region ?_
          apply EvOps.run
          · intro call; simp [hl, h9, wrap_succ at_ (by omega)]; exact rfl
          refine ⟨_, ?_, _, a, back, i + 1, at_ + 1, rfl, by simp [hl], by simp [h1], by simp [h5], by simp [h6], by simp [h7], by simp [hl], by simp [hl], by omega, by omega, by omega, by omega, hmid.hit hil hc he, rfl⟩
          exact meas3 (by omega)
        · have hno : ∀ (h : i < l.length), l[i].isAny = false ∧ l[i].fits s[at_] = false := fun h => by
            rw [dif_pos h] at hna hnf
            exact ⟨hna, hnf⟩
          refine Ev.seq (Ev.region ?_)
          apply EvOps.run
          · intro call; simp [hl, h6]; exact rfl
          refine Ev.cond (decide (0 < a)) (by simp [hl]; omega) (fun ha => ?_) (fun ha => ?_)
          · simp only [decide_eq_true_eq] at ha
            refine Ev.seq (Ev.region ?_)
            apply EvOps.run
            · intro call; simp [hl, h7, wrap_succ back (by omega)]; exact rfl
            refine Ev.region ?_
            apply EvOps.run
            · intro call; simp [hl, h6, wrap_nat a (by omega)]; exact rfl
            refine ⟨_, ?_, _, a, back + 1, a, back + 1, rfl, by simp [hl], by simp [h1], by simp [h5], by simp [h6], by simp [hl], by simp [hl], by simp [hl], by omega, by omega, Nat.le_refl _, Nat.le_refl _, hmid.back ha hi hc hno, rfl⟩
            exact meas2 (by omega) (by omega)
          · have ha0 : a = 0 := by simpa using ha
            subst ha0
            have hdead := hmid.dead hi hc hno
            refine Ev.seq (Ev.region ?_)
            apply EvOps.run
            · intro call; simp [hl]; exact rfl
            refine Ev.ret ⟨.bool false, by simp [Try.f37, hl], ?_⟩
            rw [strip_bool]
            congr 1
            symm
            rw [Bool.eq_false_iff]
            exact fun h => hdead (hv.1 h)
    · simp only [decide_eq_false_iff_not] at hc
      exact tail fr a i hl h5 h8 hi (hmid.end (by omega) (by omega))
  · exact ⟨_, 0, 0, 0, 0, rfl, by simp, by simp, by simp, by simp, by simp, by simp, by simp, by omega, by omega, by omega, by omega, .inl ⟨rfl, by simp⟩, by simp⟩
end Go.Proofs.Ytnifldbmflkmpaa
