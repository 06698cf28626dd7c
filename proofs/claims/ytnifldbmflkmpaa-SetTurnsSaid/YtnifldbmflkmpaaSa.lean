/-
  slices.BinarySearch, set.Has; ContainsFunc; set.Add, Del; the reference's Add; both Rights, of any list.
-/
import Derived.Test.YtnifldbmflkmpaaFi
import Derived.Test.YtnifldbmflkmpaaSi
namespace Go.Proofs.Ytnifldbmflkmpaa
open Go Ev
set_option linter.unusedVariables false
set_option linter.unusedSimpArgs false
set_option maxRecDepth 10000
theorem nan97_ok (s : S) : Ret cfg 97 [.str s] (.bool false) := by
  refine Ret.of_body rfl rfl Try.func97 rfl (by simp) (by simp) ?_
  refine Ev.seq (Ev.region ?_)
  apply EvOps.run
  · intro call; simp [Try.f97]; exact rfl
  refine Ev.seq (Ev.region ?_)
  apply EvOps.run
  · intro call; simp; exact rfl
  exact Ev.ret ⟨.bool false, by simp [Try.f97], by simp⟩
theorem nan109_ok (s : S) : Ret cfg 109 [.str s] (.bool false) := by
  refine Ret.of_body rfl rfl Try.func109 rfl (by simp) (by simp) ?_
  refine Ev.seq (Ev.region ?_)
  apply EvOps.run
  · intro call; simp [Try.f109]; exact rfl
  refine Ev.seq (Ev.region ?_)
  apply EvOps.run
  · intro call; simp; exact rfl
  exact Ev.ret ⟨.bool false, by simp [Try.f109], by simp⟩
theorem less96_ok (a b : S) : Ret cfg 96 [.str a, .str b] (.bool (Op.bytesLess a b)) := by
  refine Ret.of_body rfl rfl Try.func96 rfl (by simp) (by simp) ?_
  refine Ev.seq (Ev.region ?_)
  apply EvOps.run
  · intro call; simp [Try.f96]; exact rfl
  refine Ev.seq (Ev.region (EvOps.take 1 ?_))
  apply EvOps.run
  · intro call; simp; exact rfl
  refine EvOps.call rfl (by simp) (by simp <;> exact rfl) (by simp <;> exact rfl) (nan109_ok a) ?_
  apply EvOps.run
  · intro call; simp; exact rfl
  exact Ev.ret ⟨.bool (Op.bytesLess a b), by simp [Try.f96], by simp⟩
theorem sorted_lt {s : List S} (hs : Sorted s) {i j : Nat} (hi : i < s.length) (hj : j < s.length) (h : i < j) : Op.bytesLess s[i] s[j] = true :=
  (List.pairwise_iff_getElem.1 hs) i j hi hj h
set_option maxHeartbeats 2000000 in
theorem search_ok (s : List S) (x : S) (hs : Sorted s) (hb : s.length < 2 ^ 40) : ∃ p : Nat, Ret cfg 78 [strs s, .str x] (.tuple [.int .i64 (p : Nat), .bool (hasS s x)]) := by
  -- where the halving ends
  have hp : ∃ p, p ≤ s.length ∧ (∀ t (h : t < s.length), t < p → Op.bytesLess s[t] x = true) ∧ (∀ t (h : t < s.length), p ≤ t → Op.bytesLess s[t] x = false) := by
    clear hb
    induction s with
    | nil => exact ⟨0, by simp, by simp, by simp⟩
    | cons a l ih =>
      obtain ⟨h1, h2⟩ := Sorted.cons.1 hs
      obtain ⟨p, i1, i2, i3⟩ := ih h2
      cases ha : Op.bytesLess a x with
      | true =>
        refine ⟨p + 1, by simp; omega, fun t h ht => ?_, fun t h ht => ?_⟩
        · cases t with
          | zero => exact ha
          | succ t => exact i2 t (by simpa using h) (by omega)
        · cases t with
          | zero => omega
          | succ t => exact i3 t (by simpa using h) (by omega)
      | false =>
        refine ⟨0, by simp, fun t h ht => by omega, fun t h _ => ?_⟩
        cases t with
        | zero => exact ha
        | succ t =>
          have hlt := h1 (l[t]'(by simpa using h)) (List.getElem_mem _)
          cases hq : Op.bytesLess (l[t]'(by simpa using h)) x with
          | false => exact hq
          | true => rw [lt_trans hlt hq] at ha; cases ha
  obtain ⟨p, hpl, hlo, hhi⟩ := hp
  have hhas : hasS s x = (if h : p < s.length then s[p] == x else false) := by
    rw [Bool.eq_iff_iff, hasS_iff]
    constructor
    · intro hx
      obtain ⟨t, ht, e⟩ := List.mem_iff_getElem.1 hx
      have h1 : ¬ t < p := fun h => by have := hlo t ht h; rw [e, lt_irrefl] at this; cases this
      have h2 : t = p := by
        by_cases h : p < t
        · have h3 := sorted_lt hs (show p < s.length by omega) ht h
          rw [e] at h3
          rw [hhi p (by omega) (Nat.le_refl _)] at h3
          cases h3
        · omega
      subst h2
      rw [dif_pos ht, e]
      simp
    · intro h
      by_cases hl : p < s.length
      · rw [dif_pos hl, beq_iff_eq] at h
        rw [← h]; exact List.getElem_mem hl
      · rw [dif_neg hl] at h; cases h
  refine ⟨p, ?_⟩
  refine Ret.of_body rfl rfl Try.func78 rfl (by simp) (by simp) ?_
  refine Ev.seq (Ev.region ?_)
  apply EvOps.run
  · intro call; simp [Try.f78]; exact rfl
  refine Ev.seq (Ev.region ?_)
  apply EvOps.run
  · intro call; simp [strs]; exact rfl
  refine Ev.seq (Ev.region ?_)
  apply EvOps.run
  · intro call; simp; exact rfl
  refine Ev.seq (Ev.block ?_)
  refine Ev.loop (fun m st => ∃ (fr : List AV) (lo hi : Nat), st = ⟨fr, [], false⟩ ∧ fr.length = 54 ∧ slotAt fr 0 = some (strs s) ∧ slotAt fr 1 = some (.str x) ∧ slotAt fr 6 = some (.int .i64 (s.length : Nat)) ∧ slotAt fr 7 = some (.int .i64 (lo : Nat)) ∧ slotAt fr 8 = some (.int .i64 (hi : Nat)) ∧ lo ≤ p ∧ p ≤ hi ∧ hi ≤ s.length ∧ m = hi - lo) ?_ s.length _ ?_
  · rintro m st ⟨fr, lo, hi, rfl, hl, h0, h1, h6, h7, h8, hlp, hph, hhs, rfl⟩
    refine Ev.seq (Ev.seq (Ev.region ?_))
    apply EvOps.run
    · intro call; simp [hl, h7, h8]; exact rfl
    refine Ev.cond (decide (lo < hi)) (by simp [hl]) (fun hc => Ev.skip ?_) (fun hc => Ev.exit ?_)
    · simp only [decide_eq_true_eq] at hc
      obtain ⟨mid, hmid⟩ : ∃ mid : Nat, mid = (lo + hi) / 2 := ⟨_, rfl⟩
      have hm : mid < s.length := by omega
      have hdiv : ((lo : Int) + (hi : Int)).fdiv 2 = (mid : Int) := by
        rw [hmid, Int.fdiv_eq_ediv_of_nonneg _ (by omega)]
        omega
      have hw64 : IntKind.wrap .u64 ((lo : Int) + (hi : Int)) = (lo : Int) + (hi : Int) := by simp [IntKind.wrap, IntKind.bits, IntKind.signed]; omega
      refine Ev.block (Ev.seq (Ev.region ?_))
      apply EvOps.keep (h' := []) (d' := false) (fun fr => fr.length = 54 ∧ slotAt fr 0 = some (strs s) ∧ slotAt fr 1 = some (.str x) ∧ slotAt fr 6 = some (.int .i64 (s.length : Nat)) ∧ slotAt fr 7 = some (.int .i64 (lo : Nat)) ∧ slotAt fr 8 = some (.int .i64 (hi : Nat)) ∧ slotAt fr 9 = some (.int .i64 (mid : Nat)))
      · intro call; simp [hl, h7, h8, wrap_int ((lo : Int) + (hi : Int)) (by omega) (by omega), hw64, IntKind.bits, hdiv, wrap_nat mid (by omega)]; exact rfl
      · exact ⟨by simp [hl], by simp [h0], by simp [h1], by simp [h6], by simp [h7], by simp [h8], by simp [hl]⟩
      clear hl h0 h1 h6 h7 h8 fr
      rintro fr ⟨hl, h0, h1, h6, h7, h8, h9⟩
      refine Ev.seq (Ev.region (EvOps.take 5 ?_))
      apply EvOps.run
      · intro call; simp [hl, h0, h1, h9, strs, hm]; exact rfl
      refine EvOps.call rfl (by simp) (by simp [hl] <;> exact rfl) (by simp <;> exact ⟨rfl, rfl⟩) (less96_ok s[mid] x) ?_
      apply EvOps.run
      · intro call; simp; exact rfl
      refine Ev.cond (Op.bytesLess s[mid] x) (by simp [hl]) (fun he => ?_) (fun he => ?_)
      · have hmp : mid < p := by
          by_cases h : mid < p
          · exact h
          · rw [hhi mid hm (by omega)] at he; cases he
        refine Ev.region ?_
        apply EvOps.run
        · intro call; simp [hl, h9, wrap_succ mid (by omega)]; exact rfl
        exact ⟨hi - (mid + 1), by omega, _, mid + 1, hi, rfl, by simp [hl], by simp [h0], by simp [h1], by simp [h6], by simp [hl], by simp [h8], by omega, hph, hhs, rfl⟩
      · have hmp : p ≤ mid := by
          by_cases h : mid < p
          · rw [hlo mid hm h] at he; cases he
          · omega
        refine Ev.region ?_
        apply EvOps.run
        · intro call; simp [hl, h9]; exact rfl
        exact ⟨mid - lo, by omega, _, lo, mid, rfl, by simp [hl], by simp [h0], by simp [h1], by simp [h6], by simp [h7], by simp [hl], hlp, hmp, by omega, rfl⟩
    · simp only [decide_eq_false_iff_not] at hc
      have hlo2 : lo = p := by omega
      subst hlo2
      by_cases hl2 : lo < s.length
      · rw [dif_pos hl2] at hhas
        rw [hhas]
        have hgl : (s.map AV.str)[lo]? = some (.str s[lo]) := by simp [hl2]
        cases heq : (s[lo] == x) with
        | true =>
          refine Ev.seq (Ev.region ?_)
          apply EvOps.run
          · intro call; simp [hl, h0, h1, h6, h7, strs, hl2, heq]; exact rfl
          exact Ev.ret ⟨.tuple [.int .i64 (lo : Nat), .bool true], by simp [Try.f78, hl], by simp⟩
        | false =>
          refine Ev.seq (Ev.region (EvOps.take 16 ?_))
          apply EvOps.run
          · intro call; simp [hl, h0, h1, h6, h7, strs, hl2, heq]; exact rfl
          refine EvOps.call rfl (by simp [hl]) (by simp [hl] <;> exact rfl) (by simp <;> exact rfl) (nan97_ok s[lo]) ?_
          apply EvOps.run
          · intro call; simp [hl]; exact rfl
          exact Ev.ret ⟨.tuple [.int .i64 (lo : Nat), .bool false], by simp [Try.f78, hl], by simp⟩
      · rw [dif_neg hl2] at hhas
        rw [hhas]
        refine Ev.seq (Ev.region ?_)
        apply EvOps.run
        · intro call; simp [hl, h0, h1, h6, h7, strs, hl2]; exact rfl
        exact Ev.ret ⟨.tuple [.int .i64 (lo : Nat), .bool false], by simp [Try.f78, hl], by simp⟩
  · exact ⟨_, 0, s.length, rfl, by simp, by simp [strs], by simp, by simp, by simp, by simp, by omega, hpl, by omega, rfl⟩
theorem hasB_ok (s : List S) (x : S) (hs : Sorted s) (hb : s.length < 2 ^ 40) : Ret cfg 52 [strs s, .str x] (.bool (hasS s x)) := by
  obtain ⟨p, hp⟩ := search_ok s x hs hb
  refine Ret.of_body rfl rfl Try.func52 rfl (by simp) (by simp) ?_
  refine Ev.seq (Ev.region ?_)
  apply EvOps.run
  · intro call; simp [Try.f52]; exact rfl
  refine Ev.seq (Ev.region (EvOps.take 2 ?_))
  apply EvOps.run
  · intro call; simp; exact rfl
  refine EvOps.call rfl (by simp) (by simp <;> exact rfl) (by simp <;> exact ⟨rfl, rfl⟩) hp ?_
  apply EvOps.run
  · intro call; simp; exact rfl
  refine Ev.seq (Ev.region ?_)
  apply EvOps.run
  · intro call; simp; exact rfl
  exact Ev.ret ⟨.bool (hasS s x), by simp [Try.f52], by simp⟩
/-- Is one of the texts too long? -/
def anyLong (ss : List S) : Bool := ss.any fun s => decide (4096 < s.length)
theorem any_drop_cons {α : Type} (p : α → Bool) (l : List α) (i : Nat) (h : i < l.length) : (l.drop i).any p = (p l[i] || (l.drop (i + 1)).any p) := by
  rw [List.drop_eq_getElem_cons h, List.any_cons]
theorem idxLong_ok (ss : List S) (hb : ss.length < 2 ^ 40) : ∃ j : Int, Ret cfg 84 [strs ss, .func (.func 61) [] []] (.int .i64 j) ∧ decide (0 ≤ j) = anyLong ss := by
  obtain ⟨j, hj, hjr⟩ : ∃ j : Int, decide (0 ≤ j) = anyLong ss ∧ ((j = -1 ∧ anyLong ss = false) ∨ (∃ i : Nat, j = i ∧ ∃ h : i < ss.length, decide (4096 < (ss[i]).length) = true ∧ ∀ t (ht : t < ss.length), t < i → decide (4096 < (ss[t]).length) = false)) := by
    clear hb
    induction ss with
    | nil => exact ⟨-1, by simp [anyLong], .inl ⟨rfl, by simp [anyLong]⟩⟩
    | cons a l ih =>
      cases ha : decide (4096 < a.length) with
      | true => exact ⟨0, by simp [anyLong, ha], .inr ⟨0, rfl, by simp, ha, fun t _ h => by omega⟩⟩
      | false =>
        obtain ⟨j, h1, h2⟩ := ih
        have e : anyLong (a :: l) = anyLong l := by simp only [anyLong, List.any_cons, ha, Bool.false_or]
        rcases h2 with ⟨rfl, h2⟩ | ⟨i, rfl, hi, h2, h3⟩
        · exact ⟨-1, by rw [e]; exact h1, .inl ⟨rfl, by rw [e]; exact h2⟩⟩
        · refine ⟨((i + 1 : Nat) : Int), by rw [e, ← h1]; simp, .inr ⟨i + 1, rfl, by simpa using hi, h2, fun t ht h => ?_⟩⟩
          cases t with
          | zero => exact ha
          | succ t => exact h3 t (by simpa using ht) (by omega)
  refine ⟨j, ?_, hj⟩
  refine Ret.of_body rfl rfl Try.func84 rfl (by simp) (by simp) ?_
  refine Ev.seq (Ev.region ?_)
  apply EvOps.run
  · intro call; simp [Try.f84]; exact rfl
  refine Ev.seq (Ev.seq (Ev.region ?_))
  apply EvOps.run
  · intro call; simp [strs]; exact rfl
  refine Ev.block ?_
  refine Ev.loop (fun m st => ∃ (fr : List AV) (i : Nat), st = ⟨fr, [], false⟩ ∧ fr.length = 19 ∧ slotAt fr 0 = some (strs ss) ∧ slotAt fr 1 = some (.func (.func 61) [] []) ∧ slotAt fr 7 = some (.int .i64 (ss.length : Nat)) ∧ slotAt fr 8 = some (.int .i64 (i : Nat)) ∧ i ≤ ss.length ∧ m = ss.length - i ∧ (∀ t (ht : t < ss.length), t < i → decide (4096 < (ss[t]).length) = false)) ?_ ss.length _ ?_
  · rintro m st ⟨fr, i, rfl, hl, h0, h1, h7, h8, hi, rfl, hbe⟩
    refine Ev.seq (Ev.region ?_)
    apply EvOps.run
    · intro call; simp [hl, h7, h8]; exact rfl
    refine Ev.seq (Ev.cond (decide (i < ss.length)) (by simp [hl]) (fun hc => Ev.skip ?_) (fun hc => Ev.exit ?_))
    · simp only [decide_eq_true_eq] at hc
      refine Ev.seq (Ev.block (Ev.seq (Ev.region ?_)))
      apply EvOps.run
      · intro call; simp [hl, h8]; exact rfl
      refine Ev.seq (Ev.region (EvOps.take 5 ?_))
      apply EvOps.run
      · intro call; simp [hl, h0, h1, h8, strs, hc]; exact rfl
      refine EvOps.callv (g := 61) (first := []) (captured := []) (vs := [.str ss[i]]) rfl (by simp [hl]) (by simp) (by simp [hl]) (by simp <;> exact rfl) (long_ok ss[i]) ?_
      apply EvOps.run
      · intro call; simp; exact rfl
      refine Ev.cond (decide (4096 < (ss[i]).length)) (by simp [hl]) (fun he => ?_) (fun he => Ev.skip ?_)
      · refine Ev.seq (Ev.region ?_)
        apply EvOps.run
        · intro call; simp [hl]; exact rfl
        have hji : j = (i : Int) := by
          rcases hjr with ⟨_, h⟩ | ⟨i', rfl, hi', h2, h3⟩
          · exfalso
            have : anyLong ss = true := by
              rw [anyLong, List.any_eq_true]; exact ⟨_, List.getElem_mem hc, he⟩
            rw [h] at this; cases this
          · by_cases h : i' < i
            · rw [hbe i' hi' h] at h2; cases h2
            · by_cases h' : i < i'
              · rw [h3 i hc h'] at he; cases he
              · congr 1; omega
        exact Ev.ret ⟨.int .i64 (i : Nat), by simp [Try.f84, hl], by rw [hji]; rfl⟩
      · refine Ev.region ?_
        apply EvOps.run
        · intro call; simp [hl, h8, wrap_succ i (by omega)]; exact rfl
        refine ⟨ss.length - (i + 1), by omega, _, i + 1, rfl, by simp [hl], by simp [h0], by simp [h1], by simp [h7], by simp [hl], by omega, rfl, fun t ht h => ?_⟩
        by_cases e : t = i
        · subst e; exact he
        · exact hbe t ht (by omega)
    · simp only [decide_eq_false_iff_not] at hc
      refine Ev.seq (Ev.region ?_)
      apply EvOps.run
      · intro call; simp [hl]; exact rfl
      have hji : j = -1 := by
        rcases hjr with ⟨h, _⟩ | ⟨i', rfl, hi', h2, h3⟩
        · exact h
        · rw [hbe i' hi' (by omega)] at h2; cases h2
      exact Ev.ret ⟨.int .i64 (-1), by simp [Try.f84, hl], by rw [hji]; rfl⟩
  · exact ⟨_, 0, rfl, by simp, by simp [strs], by simp, by simp [strs], by simp, by omega, rfl, fun t _ h => by omega⟩
theorem conLong_ok (ss : List S) (hb : ss.length < 2 ^ 40) : Ret cfg 70 [strs ss, .func (.func 61) [] []] (.bool (anyLong ss)) := by
  obtain ⟨j, hr, hj⟩ := idxLong_ok ss hb
  refine Ret.of_body rfl rfl Try.func70 rfl (by simp) (by simp) ?_
  refine Ev.seq (Ev.region ?_)
  apply EvOps.run
  · intro call; simp [Try.f70]; exact rfl
  refine Ev.seq (Ev.region (EvOps.take 2 ?_))
  apply EvOps.run
  · intro call; simp; exact rfl
  refine EvOps.call rfl (by simp) (by simp <;> exact rfl) (by simp <;> exact ⟨rfl, rfl⟩) hr ?_
  apply EvOps.run
  · intro call; simp [hj]; exact rfl
  exact Ev.ret ⟨.bool (anyLong ss), by simp [Try.f70], by simp⟩
end Go.Proofs.Ytnifldbmflkmpaa
