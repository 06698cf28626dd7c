/-
  glob.fits, Plain, Match.
-/
import Derived.Test.YtnifldbmflkmpaaPb
namespace Go.Proofs.Ytnifldbmflkmpaa
open Go Ev
set_option linter.unusedVariables false
set_option linter.unusedSimpArgs false
set_option maxRecDepth 10000
theorem fits_ok (p : Pt) (b : UInt8) : Ret cfg 66 [aPt p, .int .u8 (b.toNat : Int)] (.bool (p.fits b)) := by
  have nospan : ∀ p : Pt, p.spans = [] → p.fits b = p.others → Ret cfg 66 [aPt p, .int .u8 (b.toNat : Int)] (.bool (p.fits b)) := by
    intro p hs hf
    refine Ret.of_body rfl rfl Try.func66 rfl (by simp) (by simp) ?_
    refine Ev.seq (Ev.region ?_)
    apply EvOps.run
    · intro call; simp [Try.f66, aPt, hs]; exact rfl
    refine Ev.seq (Ev.seq (Ev.region ?_))
    apply EvOps.run
    · intro call; simp; exact rfl
    refine Ev.block ?_
    refine Ev.loop (fun m st => m = 0 ∧ ∃ fr, st = ⟨fr, [.cells [.bool p.isAny, .L [], .bool p.others, .int .i64 (p.len : Nat)]], false⟩ ∧ fr.length = 30 ∧ slotAt fr 2 = some (.ptr 0 0) ∧ slotAt fr 9 = some (.int .i64 0) ∧ slotAt fr 10 = some (.int .i64 0)) ?_ 0 _ ?_
    · rintro m st ⟨rfl, fr, rfl, hl, h2, h9, h10⟩
      refine Ev.seq (Ev.region ?_)
      apply EvOps.run
      · intro call; simp [hl, h9, h10]; exact rfl
      refine Ev.seq (Ev.cond false (by simp [hl]) (fun h => by simp at h) (fun _ => Ev.exit ?_))
      refine Ev.seq (Ev.region ?_)
      apply EvOps.run
      · intro call; simp [hl, h2]; exact rfl
      exact Ev.ret ⟨.bool p.others, by simp [Try.f66, hl], by rw [hf]; rfl⟩
    · exact ⟨rfl, _, rfl, by simp, by simp, by simp, by simp⟩
  cases p with
  | any => exact nospan .any rfl rfl
  | q => exact nospan .q rfl rfl
  | lit c n =>
    have e1 : decide ((c.toNat : Int) ≤ (b.toNat : Int)) = true ∨ decide ((c.toNat : Int) ≤ (b.toNat : Int)) = false := by cases decide ((c.toNat : Int) ≤ (b.toNat : Int)) <;> simp
    refine Ret.of_body rfl rfl Try.func66 rfl (by simp) (by simp) ?_
    refine Ev.seq (Ev.region ?_)
    apply EvOps.run
    · intro call; simp [Try.f66, aPt, Pt.isAny, Pt.spans, Pt.others, Pt.len]; exact rfl
    refine Ev.seq (Ev.seq (Ev.region ?_))
    apply EvOps.run
    · intro call; simp; exact rfl
    refine Ev.block ?_
    refine Ev.loop (fun m st => ∃ fr hh, st = ⟨fr, hh, false⟩ ∧ fr.length = 30 ∧ hh[0]? = some (.cells [.bool false, .L [.agg [.int .u8 (c.toNat : Int), .int .u8 (c.toNat : Int)]], .bool false, .int .i64 (n : Nat)]) ∧ slotAt fr 1 = some (.int .u8 (b.toNat : Int)) ∧ slotAt fr 2 = some (.ptr 0 0) ∧ slotAt fr 8 = some (.L [.agg [.int .u8 (c.toNat : Int), .int .u8 (c.toNat : Int)]]) ∧ slotAt fr 9 = some (.int .i64 1) ∧ ((m = 1 ∧ slotAt fr 10 = some (.int .i64 0)) ∨ (m = 0 ∧ slotAt fr 10 = some (.int .i64 1) ∧ (c == b) = false))) ?_ 1 _ ?_
    · rintro m st ⟨fr, hh, rfl, hl, hc, h1, h2, h8, h9, ⟨rfl, h10⟩ | ⟨rfl, h10, hcb⟩⟩
      · refine Ev.seq (Ev.region ?_)
        apply EvOps.run
        · intro call; simp [hl, h9, h10]; exact rfl
        refine Ev.seq (Ev.cond true (by simp [hl]) (fun _ => Ev.skip ?_) (fun h => by simp at h))
        have h0l : 0 < hh.length := (List.getElem?_eq_some_iff.1 hc).1
        refine Ev.seq (Ev.block (Ev.seq (Ev.region ?_)))
        apply EvOps.keep (h' := hh ++ [.cells [.int .u8 (c.toNat : Int), .int .u8 (c.toNat : Int)]]) (d' := false) (fun fr => fr.length = 30 ∧ slotAt fr 1 = some (.int .u8 (b.toNat : Int)) ∧ slotAt fr 2 = some (.ptr 0 0) ∧ slotAt fr 8 = some (.L [.agg [.int .u8 (c.toNat : Int), .int .u8 (c.toNat : Int)]]) ∧ slotAt fr 9 = some (.int .i64 1) ∧ slotAt fr 10 = some (.int .i64 0) ∧ slotAt fr 6 = some (.ptr hh.length 0))
        · intro call; simp [hl, h8, h10, splice]; exact rfl
        · exact ⟨by simp [hl], by simp [h1], by simp [h2], by simp [h8], by simp [h9], by simp [h10], by simp [hl]⟩
        clear hl h1 h2 h8 h9 h10 fr
        rintro fr ⟨hl, h1, h2, h8, h9, h10, h6⟩
        have hc' := heap_old (x := AO.cells [.int .u8 (c.toNat : Int), .int .u8 (c.toNat : Int)]) hc
        have h6' : (hh ++ [AO.cells [.int .u8 (c.toNat : Int), .int .u8 (c.toNat : Int)]])[hh.length]? = some (.cells [.int .u8 (c.toNat : Int), .int .u8 (c.toNat : Int)]) := by simp
        generalize hh ++ [AO.cells [.int .u8 (c.toNat : Int), .int .u8 (c.toNat : Int)]] = H at hc' h6' ⊢
        refine Ev.mid (fun st => ∃ fr, st = ⟨fr, H, false⟩ ∧ fr.length = 30 ∧ slotAt fr 1 = some (.int .u8 (b.toNat : Int)) ∧ slotAt fr 2 = some (.ptr 0 0) ∧ slotAt fr 8 = some (.L [.agg [.int .u8 (c.toNat : Int), .int .u8 (c.toNat : Int)]]) ∧ slotAt fr 9 = some (.int .i64 1) ∧ slotAt fr 10 = some (.int .i64 0) ∧ slotAt fr 23 = some (.bool (c == b))) ?_ ?_
        · refine Ev.region ?_
          by_cases hle : c.toNat ≤ b.toNat
          · apply EvOps.run
            · intro call; simp [hl, h1, h6, h6', show (c.toNat : Int) ≤ (b.toNat : Int) by omega]; exact rfl
            refine ⟨_, rfl, by simp [hl], by simp [h1], by simp [h2], by simp [h8], by simp [h9], by simp [h10], ?_⟩
            simp only [slotAt_set, List.length_set, hl]
            simp
            rw [Bool.eq_iff_iff, beq_iff_eq, decide_eq_true_eq]
            constructor
            · intro h; exact UInt8.toNat_inj.1 (by have := UInt8.le_iff_toNat_le.1 h; omega)
            · intro h; rw [h]; exact UInt8.le_iff_toNat_le.2 (Nat.le_refl _)
          · have hcb : (c == b) = false := by rw [beq_eq_false_iff_ne]; rintro rfl; omega
            apply EvOps.run
            · intro call; simp [hl, h1, h6, h6', show ¬ (c.toNat : Int) ≤ (b.toNat : Int) by omega]; exact rfl
            exact ⟨_, rfl, by simp [hl], by simp [h1], by simp [h2], by simp [h8], by simp [h9], by simp [h10], by simp [hl, hcb]⟩
        clear hl h1 h2 h8 h9 h10 h6 fr
        rintro _ ⟨fr, rfl, hl, h1, h2, h8, h9, h10, h23⟩
        refine Ev.cond (c == b) (by simp only [op_tmp, h23]) (fun h => ?_) (fun h => Ev.skip ?_)
        · refine Ev.seq (Ev.region ?_)
          apply EvOps.run
          · intro call; simp [hl, h2, hc']; exact rfl
          exact Ev.ret ⟨.bool true, by simp [Try.f66, hl], by simp only [Pt.fits, h, strip_bool]⟩
        · refine Ev.region ?_
          apply EvOps.run
          · intro call; simp [hl, h10, wrap_int 1 (by omega) (by omega)]; exact rfl
          exact ⟨0, by omega, _, _, rfl, by simp [hl], hc', by simp [h1], by simp [h2], by simp [h8], by simp [h9], .inr ⟨rfl, by simp [hl], h⟩⟩
      · refine Ev.seq (Ev.region ?_)
        apply EvOps.run
        · intro call; simp [hl, h9, h10]; exact rfl
        refine Ev.seq (Ev.cond false (by simp [hl]) (fun h => by simp at h) (fun _ => Ev.exit ?_))
        refine Ev.seq (Ev.region ?_)
        apply EvOps.run
        · intro call; simp [hl, h2, hc]; exact rfl
        exact Ev.ret ⟨.bool false, by simp [Try.f66, hl], by simp only [Pt.fits, hcb, strip_bool]⟩
    · exact ⟨_, _, rfl, by simp, by simp, by simp, by simp, by simp, by simp, .inl ⟨rfl, by simp⟩⟩
theorem plain_ok (s : S) (hb : s.length < 2 ^ 60) : Ret cfg 39 [.str s] (.bool (s.all fun b => !isSign b)) := by
  refine Ret.of_body rfl rfl Try.func39 rfl (by simp) (by simp) ?_
  refine Ev.seq (Ev.region ?_)
  apply EvOps.run
  · intro call; simp [Try.f39]; exact rfl
  refine Ev.seq (Ev.seq (Ev.region ?_))
  apply EvOps.run
  · intro call; simp; exact rfl
  refine Ev.block ?_
  refine Ev.loop (fun m st => ∃ fr i, st = ⟨fr, [], false⟩ ∧ fr.length = 15 ∧ slotAt fr 0 = some (.str s) ∧ slotAt fr 5 = some (.int .i64 (s.length : Nat)) ∧ slotAt fr 6 = some (.int .i64 (i : Nat)) ∧ i ≤ s.length ∧ m = s.length - i ∧ s.all (fun b => !isSign b) = (s.drop i).all (fun b => !isSign b)) ?_ s.length _ ?_
  · rintro m st ⟨fr, i, rfl, hl, h0, h5, h6, hi, rfl, hp⟩
    refine Ev.seq (Ev.region ?_)
    apply EvOps.run
    · intro call; simp [hl, h5, h6]; exact rfl
    refine Ev.seq (Ev.cond (decide (i < s.length)) (by simp [hl]) (fun hc => Ev.skip ?_) (fun hc => Ev.exit ?_))
    · simp only [decide_eq_true_eq] at hc
      have hg : s[i]? = some s[i] := List.getElem?_eq_getElem hc
      have hx := idx67 [42, 63, 91, 92] (s[i].toNat : Int)
      rw [show ((s[i].toNat : Int)).toNat.toUInt8 = s[i] by simp] at hx
      have hsg := sign_idx s[i]
      rw [List.drop_eq_getElem_cons hc, List.all_cons] at hp
      refine Ev.seq (Ev.block (Ev.seq (Ev.region ?_)))
      apply EvOps.run
      · intro call; simp [hl, h6]; exact rfl
      refine Ev.seq (Ev.region (EvOps.take 3 ?_))
      apply EvOps.run
      · intro call; simp [hl, h0, h6, hg]; exact rfl
      refine EvOps.call rfl (by simp) (by simp [hl] <;> exact rfl) (by simp <;> exact rfl) hx ?_
      generalize Lib.indexByte [42, 63, 91, 92] s[i] = J at hsg
      apply EvOps.run
      · intro call; simp [hl]; exact rfl
      refine Ev.cond (isSign s[i]) (by simp [hl, hsg]) (fun he => ?_) (fun he => Ev.skip ?_)
      · refine Ev.seq (Ev.region ?_)
        apply EvOps.run
        · intro call; simp [hl]; exact rfl
        exact Ev.ret ⟨.bool false, by simp [Try.f39, hl], by rw [hp, he]; rfl⟩
      · refine Ev.region ?_
        apply EvOps.run
        · intro call; simp [hl, h6, wrap_succ i (by omega)]; exact rfl
        exact ⟨s.length - (i + 1), by omega, _, i + 1, rfl, by simp [hl], by simp [h0], by simp [h5], by simp [hl], by omega, rfl, by rw [hp, he]; rfl⟩
    · simp only [decide_eq_false_iff_not] at hc
      rw [List.drop_of_length_le (by omega)] at hp
      refine Ev.seq (Ev.region ?_)
      apply EvOps.run
      · intro call; simp [hl]; exact rfl
      exact Ev.ret ⟨.bool true, by simp [Try.f39, hl], by rw [hp]; rfl⟩
  · exact ⟨_, 0, rfl, by simp, by simp, by simp, by simp, by omega, rfl, by simp⟩
end Go.Proofs.Ytnifldbmflkmpaa
