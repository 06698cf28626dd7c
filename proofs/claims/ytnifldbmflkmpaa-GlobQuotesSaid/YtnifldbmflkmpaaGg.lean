/-
  pentimentoref04.Size: the count by definition.
-/
import Derived.Test.YtnifldbmflkmpaaGf
namespace Go.Proofs.Ytnifldbmflkmpaa
open Go Ev
set_option linter.unusedVariables false
set_option linter.unusedSimpArgs false
set_option maxRecDepth 10000
mutual
/-- How many replies there are in one; 100000: too many, too deep, too long. -/
def sizeN : Nat → R → Nat
  | 0, _ => 100000
  | d + 1, .mk _ s _ l => if 2000 < s.length then 100000 else sizeNs d l 1
def sizeNs : Nat → List R → Nat → Nat
  | _, [], n => n
  | d, r :: l, n => if n < 100000 then sizeNs d l (n + sizeN d r) else n
end
mutual
theorem sizeN_le : ∀ (d : Nat) (r : R), sizeN d r ≤ 100000 * (d + 1)
  | 0, _ => by simp only [sizeN]; omega
  | d + 1, .mk k s n l => by
    simp only [sizeN]
    split
    · omega
    · have := sizeNs_le d l 1 (by omega); omega
theorem sizeNs_le : ∀ (d : Nat) (l : List R) (n : Nat), n ≤ 100000 * (d + 2) → sizeNs d l n ≤ 100000 * (d + 2)
  | d, [], n, h => by simpa only [sizeNs] using h
  | d, r :: l, n, h => by
    simp only [sizeNs]
    split
    · exact sizeNs_le d l _ (by have := sizeN_le d r; omega)
    · exact h
end
mutual
theorem sizeN_pos : ∀ (d : Nat) (r : R), 0 < sizeN d r
  | 0, _ => by simp only [sizeN]; omega
  | d + 1, .mk k s n l => by
    simp only [sizeN]
    split
    · omega
    · exact Nat.lt_of_lt_of_le (by omega) (sizeNs_ge d l 1).1
theorem sizeNs_ge : ∀ (d : Nat) (l : List R) (n : Nat), n ≤ sizeNs d l n ∧ (sizeNs d l n < 100000 → n + l.length ≤ sizeNs d l n)
  | d, [], n => by simp [sizeNs]
  | d, r :: l, n => by
    have h1 := sizeN_pos d r
    have h2 := sizeNs_ge d l (n + sizeN d r)
    simp only [sizeNs]
    split
    · simp only [List.length_cons]
      exact ⟨by omega, fun h => by have := h2.2 h; omega⟩
    · exact ⟨Nat.le_refl _, fun h => by omega⟩
end
theorem sizeNs_drop (d : Nat) (l : List R) (i n : Nat) (h : i < l.length) (hn : n < 100000) : sizeNs d (l.drop i) n = sizeNs d (l.drop (i + 1)) (n + sizeN d l[i]) := by
  rw [List.drop_eq_getElem_cons h]
  simp only [sizeNs, if_pos hn]
theorem sizeNs_full (d : Nat) (l : List R) (n : Nat) (h : ¬ n < 100000) : sizeNs d l n = n := by
  cases l <;> simp only [sizeNs, if_neg h]
set_option maxHeartbeats 2000000 in
theorem size_ok : ∀ (d : Nat) (r : R), d ≤ 100 → Ret cfg 25 [aR r, .int .i64 (d : Nat)] (.int .i64 (sizeN d r : Nat))
  | d, .mk k s n l, hd => by
    refine Ret.of_body rfl rfl Try.func25 rfl (by simp) (by simp) ?_
    refine Ev.seq (Ev.region ?_)
    apply EvOps.keep (h' := [.cells [.int .i64 k, .str s, .int .i64 n, rs l]]) (d' := false) (fun fr => fr.length = 37 ∧ slotAt fr 2 = some (.ptr 0 0) ∧ slotAt fr 1 = some (.int .i64 (d : Nat)))
    · intro call; simp [Try.f25, aR, rs]; exact rfl
    · exact ⟨by simp, by simp, by simp⟩
    rintro fr ⟨hl, h2, h1⟩
    have big : ∀ fr : List AV, fr.length = 37 → sizeN d (.mk k s n l) = 100000 →
        Ev cfg 0 ((Try.f25.body.get rfl) |> fun c => match c with | .seq _ (.seq (.seq _ (.cond _ c _)) _) => c | _ => .skip) ⟨fr, [.cells [.int .i64 k, .str s, .int .i64 n, rs l]], false⟩ (onNormal (fun _ => False) (Done cfg Try.f25 (.int .i64 (sizeN d (.mk k s n l) : Nat)))) := by
      intro fr hl hq
      refine Ev.seq (Ev.region ?_)
      apply EvOps.run
      · intro call; simp [hl]; exact rfl
      refine Ev.ret ⟨.int .i64 100000, by simp [Try.f25, hl], ?_⟩
      rw [hq]; rfl
    refine Ev.seq (Ev.seq (Ev.region ?_))
    cases d with
    | zero =>
      apply EvOps.keep (h' := [.cells [.int .i64 k, .str s, .int .i64 n, rs l]]) (d' := false) (fun fr => fr.length = 37 ∧ slotAt fr 14 = some (.bool true))
      · intro call; simp [hl, h1]; exact rfl
      · exact ⟨by simp [hl], by simp [hl]⟩
      rintro fr ⟨hl, h14⟩
      refine Ev.cond true (by simp [h14]) (fun _ => ?_) (fun h => by simp at h)
      refine (big fr hl (by simp only [sizeN])).mono ?_
      intro x s hs; cases x <;> simp only [onNormal] at hs ⊢ <;> first | exact hs | exact hs.elim
    | succ d =>
      by_cases hs : 2000 < s.length
      · apply EvOps.keep (h' := [.cells [.int .i64 k, .str s, .int .i64 n, rs l]]) (d' := false) (fun fr => fr.length = 37 ∧ slotAt fr 14 = some (.bool true))
        · intro call; simp [hl, h1, h2, show (2000 : Int) < s.length by omega]; exact rfl
        · exact ⟨by simp [hl], by simp [hl]⟩
        rintro fr ⟨hl, h14⟩
        refine Ev.cond true (by simp [h14]) (fun _ => ?_) (fun h => by simp at h)
        refine (big fr hl (by simp only [sizeN, if_pos hs])).mono ?_
        intro x s hs; cases x <;> simp only [onNormal] at hs ⊢ <;> first | exact hs | exact hs.elim
      · apply EvOps.keep (h' := [.cells [.int .i64 k, .str s, .int .i64 n, rs l]]) (d' := false) (fun fr => fr.length = 37 ∧ slotAt fr 2 = some (.ptr 0 0) ∧ slotAt fr 1 = some (.int .i64 ((d + 1 : Nat) : Int)) ∧ slotAt fr 14 = some (.bool false))
        · intro call; simp [hl, h1, h2, show ¬ (2000 : Int) < s.length by omega]; exact rfl
        · exact ⟨by simp [hl], by simp [h2], by simp [h1], by simp [hl]⟩
        clear hl h1 h2 fr big
        rintro fr ⟨hl, h2, h1, h14⟩
        refine Ev.cond false (by simp [h14]) (fun h => by simp at h) (fun _ => Ev.skip ?_)
        refine Ev.seq (Ev.region ?_)
        apply EvOps.run
        · intro call; simp; exact rfl
        refine Ev.seq (Ev.seq (Ev.region ?_))
        apply EvOps.run
        · intro call; simp; exact rfl
        refine Ev.block ?_
        have hres : sizeN (d + 1) (.mk k s n l) = sizeNs d l 1 := by simp only [sizeN, if_neg hs]
        refine Ev.loop (fun m st => ∃ fr i q, st = ⟨fr, [.cells [.int .i64 k, .str s, .int .i64 n, rs l]], false⟩ ∧ fr.length = 37 ∧ slotAt fr 2 = some (.ptr 0 0) ∧ slotAt fr 1 = some (.int .i64 ((d + 1 : Nat) : Int)) ∧ slotAt fr 5 = some (.int .i64 (q : Nat)) ∧ slotAt fr 6 = some (.int .i64 (i : Nat)) ∧ i ≤ l.length ∧ m = l.length - i ∧ sizeNs d l 1 = sizeNs d (l.drop i) q ∧ q ≤ 100000 * (d + 2) ∧ i < q) ?_ l.length _ ?_
        · rintro m st ⟨fr, i, q, rfl, hl, h2, h1, h5, h6, hi, rfl, hp, hq, hiq⟩
          have fin : ∀ fr : List AV, fr.length = 37 → slotAt fr 5 = some (.int .i64 (q : Nat)) → sizeNs d (l.drop i) q = q →
              Ev cfg 0 ((Try.f25.body.get rfl) |> fun c => match c with | .seq _ (.seq _ (.seq _ (.seq _ c))) => c | _ => .skip) ⟨fr, [.cells [.int .i64 k, .str s, .int .i64 n, rs l]], false⟩ (Done cfg Try.f25 (.int .i64 (sizeN (d + 1) (.mk k s n l) : Nat))) := by
            intro fr hl h5 he
            refine Ev.seq (Ev.region ?_)
            apply EvOps.run
            · intro call; simp [hl, h5]; exact rfl
            refine Ev.ret ⟨.int .i64 (q : Nat), by simp [Try.f25, hl], ?_⟩
            rw [hres, hp, he, strip_int]
          by_cases c1 : i < l.length
          · by_cases c2 : q < 100000
            · refine Ev.seq (Ev.seq (Ev.region ?_))
              apply EvOps.run
              · intro call; simp [hl, h2, h5, h6, rs, c1, show (q : Int) < 100000 by omega]; exact rfl
              refine Ev.cond true (by simp [hl]) (fun _ => Ev.skip ?_) (fun h => by simp at h)
              obtain ⟨cs, a1, a2, a3⟩ := aR_agg l[i]
              have ih := size_ok d l[i] (by omega)
              have hpos := sizeN_pos d l[i]
              have hsz := sizeN_le d l[i]
              rw [a1] at ih
              refine Ev.seq (Ev.block (Ev.region (EvOps.take 8 ?_)))
              apply EvOps.run
              · intro call; simp [hl, h1, h2, h5, h6, rs, c1, a1, a2, wrap_int (d : Int) (by omega) (by omega)]; exact rfl
              refine EvOps.call rfl (by simp) (by simp [hl] <;> exact rfl) (by simp [a3]) ih ?_
              apply EvOps.run
              · intro call; simp [hl, wrap_int ((q : Int) + (sizeN d l[i] : Nat)) (by omega) (by omega)]; exact rfl
              refine Ev.region ?_
              apply EvOps.run
              · intro call; simp [hl, h6, wrap_succ i (by omega)]; exact rfl
              exact ⟨l.length - (i + 1), by omega, _, i + 1, q + sizeN d l[i], rfl, by simp [hl], by simp [h2], by simp [h1], by simp [hl], by simp [hl], by omega, rfl, by rw [hp, sizeNs_drop d l i q c1 c2], by omega, by omega⟩
            · refine Ev.seq (Ev.seq (Ev.region ?_))
              apply EvOps.run
              · intro call; simp [hl, h2, h5, h6, rs, c1, show ¬ (q : Int) < 100000 by omega]; exact rfl
              refine Ev.cond false (by simp [hl]) (fun h => by simp at h) (fun _ => Ev.exit ?_)
              exact fin _ (by simp [hl]) (by simp [h5]) (sizeNs_full d _ q c2)
          · refine Ev.seq (Ev.seq (Ev.region ?_))
            apply EvOps.run
            · intro call; simp [hl, h2, h5, h6, rs, c1]; exact rfl
            refine Ev.cond false (by simp [hl]) (fun h => by simp at h) (fun _ => Ev.exit ?_)
            exact fin _ (by simp [hl]) (by simp [h5]) (by rw [List.drop_of_length_le (by omega)]; simp only [sizeNs])
        · exact ⟨_, 0, 1, rfl, by simp [hl], by simp [h2], by simp [h1], by simp [hl], by simp [hl], by omega, rfl, by simp, by omega, by omega⟩
end Go.Proofs.Ytnifldbmflkmpaa
