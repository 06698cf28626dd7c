/-
  glob.one, next, parts, fits, Plain.
-/
import Derived.Test.YtnifldbmflkmpaaPa
import Derived.Test.YtnifldbmflkmpaaHc
namespace Go.Proofs.Ytnifldbmflkmpaa
open Go Ev
set_option linter.unusedVariables false
set_option linter.unusedSimpArgs false
set_option maxRecDepth 10000
def Pt.spans : Pt → List AV
  | .lit c _ => [.agg [.int .u8 (c.toNat : Int), .int .u8 (c.toNat : Int)]]
  | _ => []
def Pt.others : Pt → Bool
  | .q => true
  | _ => false
def aPt (p : Pt) : AV := .agg [.bool p.isAny, .L p.spans, .bool p.others, .int .i64 (p.len : Nat)]
@[simp] theorem strip_spans (p : Pt) : stripL p.spans = p.spans := by cases p <;> simp [Pt.spans]
@[simp] theorem clean_spans (n : Nat) (p : Pt) : cleanL n p.spans = true := by cases p <;> simp [Pt.spans]
@[simp] theorem strip_aPt (p : Pt) : (aPt p).strip = aPt p := by simp [aPt]
@[simp] theorem clean_aPt (n : Nat) (p : Pt) : (aPt p).clean n = true := by simp [aPt]
@[simp] theorem stripL_aPts (l : List Pt) : stripL (l.map aPt) = l.map aPt := stripL_map _ strip_aPt l
@[simp] theorem cleanL_aPts (n : Nat) (l : List Pt) : cleanL n (l.map aPt) = true := cleanL_map n _ (clean_aPt n) l
@[simp] theorem headOk_aPts (l : List Pt) : headOk 4 (l.map aPt) = true := by cases l <;> rfl
theorem headP_len {s : S} {p : Pt} (h : headP s = some p) : 1 ≤ p.len ∧ p.len ≤ s.length := by
  unfold headP at h
  split at h
  · cases h
  · rename_i c s'
    split at h
    · cases h; simp [Pt.len]
    split at h
    · cases h; simp [Pt.len]
    split at h
    · cases h
    split at h
    · split at h
      · cases h; simp [Pt.len]
      · cases h; simp [Pt.len]
    · cases h; simp [Pt.len]
theorem parses_len {s : S} {l : List Pt} (h : Parses s l) : l.length ≤ s.length := by
  induction h with
  | nil => simp
  | cons h1 _ ih => have := headP_len h1; rw [List.length_drop] at ih; simp; omega
theorem one_ok (c : UInt8) (n : Nat) : Ret cfg 102 [.int .u8 (c.toNat : Int), .int .i64 (n : Nat)] (aPt (.lit c n)) := by
  refine Ret.of_body rfl rfl Try.func102 rfl (by simp) (by simp) ?_
  refine Ev.seq (Ev.region ?_)
  apply EvOps.run
  · intro call; simp [Try.f102]; exact rfl
  refine Ev.seq (Ev.region ?_)
  apply EvOps.run
  · intro call; simp [buildA, buildSliceA, structPlaces, fillA, splice]; exact rfl
  exact Ev.ret ⟨_, by simp [Try.f102]; rfl, by simp [aPt, Pt.isAny, Pt.spans, Pt.others, Pt.len]⟩
theorem next_ok (s : S) (p : Pt) (hp : headP s = some p) : Ret cfg 81 [.str s] (aPt p) := by
  obtain ⟨c, s', rfl⟩ : ∃ c s', s = c :: s' := by
    cases s with
    | nil => cases hp
    | cons c s' => exact ⟨c, s', rfl⟩
  have e42 := byte_eq c 42
  have e63 := byte_eq c 63
  have e91 := byte_eq c 91
  have e92 := byte_eq c 92
  simp only [show ((42 : UInt8).toNat : Int) = 42 from rfl, show ((63 : UInt8).toNat : Int) = 63 from rfl, show ((91 : UInt8).toNat : Int) = 91 from rfl, show ((92 : UInt8).toNat : Int) = 92 from rfl] at e42 e63 e91 e92
  refine Ret.of_body rfl rfl Try.func81 rfl (by simp) (by simp) ?_
  refine Ev.seq (Ev.region ?_)
  apply EvOps.keep (h' := [.cells [.bool false, .nils, .bool false, .int .i64 0]]) (d' := false) (fun fr => fr.length = 33 ∧ slotAt fr 2 = some (.ptr 0 0) ∧ slotAt fr 0 = some (.str (c :: s')))
  · intro call; simp [Try.f81]; exact rfl
  · exact ⟨by simp, by simp, by simp⟩
  rintro fr ⟨hl, h2, h0⟩
  refine Ev.seq (Ev.seq (Ev.region ?_))
  apply EvOps.keep (h' := [.cells [.bool false, .nils, .bool false, .int .i64 0]]) (d' := false) (fun fr => fr.length = 33 ∧ slotAt fr 2 = some (.ptr 0 0) ∧ slotAt fr 0 = some (.str (c :: s')) ∧ slotAt fr 6 = some (.int .u8 (c.toNat : Int)))
  · intro call; simp [hl, h0]; exact rfl
  · exact ⟨by simp [hl], by simp [h2], by simp [h0], by simp [hl]⟩
  clear hl h2 h0 fr
  rintro fr ⟨hl, h2, h0, h6⟩
  -- behind the cases
  have last : ∀ fr : List AV, fr.length = 33 → slotAt fr 2 = some (.ptr 0 0) → slotAt fr 0 = some (.str (c :: s')) → p = .lit c 1 → Ev cfg 0 ((Try.f81.body.get rfl) |> fun c => match c with | .seq _ (.seq _ c) => c | _ => .skip) ⟨fr, [.cells [.bool false, .nils, .bool false, .int .i64 0]], false⟩ (Done cfg Try.f81 (aPt p)) := by
    intro fr hl h2 h0 hp
    refine Ev.seq (Ev.region (EvOps.take 2 ?_))
    apply EvOps.run
    · intro call; simp [hl, h0]; exact rfl
    refine EvOps.call rfl (by simp) (by simp [hl] <;> exact rfl) (by simp <;> exact rfl) (one_ok c 1) ?_
    apply EvOps.run
    · intro call; simp [hl, h2, aPt, splice]; exact rfl
    refine Ev.ret ⟨_, by simp [Try.f81, hl, h2]; rfl, ?_⟩
    rw [hp]; simp [aPt]
  refine Ev.block (Ev.seq (Ev.region ?_))
  apply EvOps.run
  · intro call; simp [hl, h6, e42]; exact rfl
  refine Ev.cond (c == 42) (by simp [hl]) (fun h => ?_) (fun c42 => ?_)
  · simp only [beq_iff_eq] at h
    subst h
    simp only [headP, if_true, Option.some.injEq] at hp
    subst hp
    refine Ev.seq (Ev.region ?_)
    apply EvOps.run
    · intro call; simp [hl, h2, buildA, structPlaces, fillA, splice]; exact rfl
    exact Ev.ret ⟨_, by simp [Try.f81, hl, h2]; rfl, by simp [aPt, Pt.isAny, Pt.spans, Pt.others, Pt.len]⟩
  refine Ev.seq (Ev.region ?_)
  apply EvOps.run
  · intro call; simp [hl, h6, e63]; exact rfl
  refine Ev.cond (c == 63) (by simp [hl]) (fun h => ?_) (fun c63 => ?_)
  · simp only [beq_iff_eq] at h
    subst h
    simp [headP] at hp
    subst hp
    refine Ev.seq (Ev.region ?_)
    apply EvOps.run
    · intro call; simp [hl, h2, buildA, structPlaces, fillA, splice]; exact rfl
    exact Ev.ret ⟨_, by simp [Try.f81, hl, h2]; rfl, by simp [aPt, Pt.isAny, Pt.spans, Pt.others, Pt.len]⟩
  refine Ev.seq (Ev.region ?_)
  apply EvOps.run
  · intro call; simp [hl, h6, e91]; exact rfl
  refine Ev.cond (c == 91) (by simp [hl]) (fun h => ?_) (fun c91 => ?_)
  · simp only [beq_iff_eq] at h
    subst h
    simp [headP] at hp
  simp only [beq_eq_false_iff_ne, ne_eq] at c42 c63 c91
  refine Ev.seq (Ev.region ?_)
  apply EvOps.run
  · intro call; simp [hl, h6, e92]; exact rfl
  refine Ev.cond (c == 92) (by simp [hl]) (fun h => ?_) (fun c92 => Ev.skip ?_)
  · simp only [beq_iff_eq] at h
    subst h
    cases s' with
    | nil =>
      simp [headP] at hp
      refine Ev.seq (Ev.region ?_)
      apply EvOps.run
      · intro call; simp [hl, h0]; exact rfl
      refine Ev.cond false (by simp [hl]) (fun h => by simp at h) (fun _ => Ev.skip ?_)
      exact last _ (by simp [hl]) (by simp [h2]) (by simp [h0]) hp.symm
    | cons b s'' =>
      simp [headP] at hp
      subst hp
      refine Ev.seq (Ev.region ?_)
      apply EvOps.run
      · intro call; simp [hl, h0]; exact rfl
      refine Ev.cond true (by simp [hl] <;> omega) (fun _ => ?_) (fun h => by simp at h)
      refine Ev.seq (Ev.region (EvOps.take 2 ?_))
      apply EvOps.run
      · intro call; simp [hl, h0]; exact rfl
      refine EvOps.call rfl (by simp) (by simp [hl] <;> exact rfl) (by simp <;> exact rfl) (one_ok b 2) ?_
      apply EvOps.run
      · intro call; simp [hl, h2, aPt, splice]; exact rfl
      exact Ev.ret ⟨_, by simp [Try.f81, hl, h2]; rfl, by simp [aPt]⟩
  · simp only [beq_eq_false_iff_ne, ne_eq] at c92
    simp [headP, c42, c63, c91, c92] at hp
    exact last _ (by simp [hl]) (by simp [h2]) (by simp [h0]) hp.symm
set_option maxHeartbeats 1000000 in
theorem parts_ok (s : S) (l : List Pt) (hp : Parses s l) (hb : s.length ≤ 2 ^ 20) : Ret cfg 65 [.str s] (.L (l.map aPt)) := by
  refine Ret.of_body rfl rfl Try.func65 rfl (by simp) (by simp) ?_
  refine Ev.seq (Ev.region ?_)
  apply EvOps.run
  · intro call; simp [Try.f65]; exact rfl
  refine Ev.seq (Ev.region ?_)
  apply EvOps.run
  · intro call; simp; exact rfl
  refine Ev.seq (Ev.block ?_)
  refine Ev.loop (fun m st => ∃ fr hh out t l1 l2, st = ⟨fr, hh, false⟩ ∧ fr.length = 18 ∧ slotAt fr 0 = some (.str t) ∧ slotAt fr 3 = some out ∧ Grow 4 hh out (l1.map aPt) ∧ Parses t l2 ∧ l = l1 ++ l2 ∧ t.length ≤ s.length ∧ l1.length + t.length ≤ s.length ∧ m = t.length) ?_ s.length _ ?_
  · rintro m st ⟨fr, hh, out, t, l1, l2, rfl, hl, h0, h3, hg, hps, hcat, hlen, hlen2, rfl⟩
    refine Ev.seq (Ev.seq (Ev.region ?_))
    apply EvOps.run
    · intro call; simp [hl, h0]; exact rfl
    cases hps with
    | nil =>
      refine Ev.cond false (by simp [hl]) (fun h => by simp at h) (fun _ => Ev.exit ?_)
      refine Ev.seq (Ev.region ?_)
      apply EvOps.run
      · intro call; simp [hl, h3]; exact rfl
      refine Ev.ret ⟨out, by simp [Try.f65, hl], ?_⟩
      rw [hg.strip, hcat, List.append_nil, stripL_aPts]
    | @cons _ p l2' hhead hrest =>
      obtain ⟨hp1, hp2⟩ := headP_len hhead
      have hne : t ≠ [] := by rintro rfl; simp at hp2; omega
      refine Ev.cond true (by simp [hl, hne]) (fun _ => Ev.skip ?_) (fun h => by simp at h)
      have hnx := next_ok t p hhead
      refine Ev.block (Ev.seq (Ev.region (EvOps.take 1 ?_)))
      apply EvOps.run
      · intro call; simp [hl, h0]; exact rfl
      refine EvOps.call rfl (by simp) (by simp [hl] <;> exact rfl) (by simp <;> exact rfl) hnx ?_
      apply EvOps.keep (h' := hh ++ [.cells [.bool p.isAny, .L p.spans, .bool p.others, .int .i64 (p.len : Nat)]]) (d' := false) (fun fr => fr.length = 18 ∧ slotAt fr 0 = some (.str t) ∧ slotAt fr 3 = some out ∧ slotAt fr 4 = some (.ptr hh.length 0))
      · intro call; simp [hl, aPt, splice]; exact rfl
      · exact ⟨by simp [hl], by simp [h0], by simp [h3], by simp [hl]⟩
      clear hl h0 h3 fr
      rintro fr ⟨hl, h0, h3, h4⟩
      have hg' := hg.push (.cells [.bool p.isAny, .L p.spans, .bool p.others, .int .i64 (p.len : Nat)])
      have htok : tokOf out ≠ some hh.length := fun e => by have := hg.tok_lt e; omega
      refine Ev.seq (Ev.region (EvOps.take 3 ?_))
      apply EvOps.run
      · intro call; simp [hl, h3, h4, buildSliceA]; exact rfl
      refine EvOps.append (x := out) (y := .list [aPt p] true (some 1) none) rfl rfl (by simp) (by simp [hl, aPt]) Try.underlying83 Try.underlying83 rfl Ty.s87 Ty.b87 Ty.z87 rfl hg' (headOk_aPts _) (ys := [aPt p]) (by simp [elemsA, headOk_cons, aPt]) (by simp only [List.length_map, List.length_singleton]; omega) ?_
      intro out1 h1 hg1 hst
      have h4' : h1[hh.length]? = some (.cells [.bool p.isAny, .L p.spans, .bool p.others, .int .i64 (p.len : Nat)]) := by
        rw [hst.old hh.length (by simp) htok]; simp
      apply EvOps.keep (h' := h1) (d' := false) (fun fr => fr.length = 18 ∧ slotAt fr 0 = some (.str t) ∧ slotAt fr 3 = some out1 ∧ slotAt fr 4 = some (.ptr hh.length 0))
      · intro call; simp [hl]; exact rfl
      · exact ⟨by simp [hl], by simp [h0], by simp [hl], by simp [h4]⟩
      clear hl h0 h3 h4 hst fr
      rintro fr ⟨hl, h0, h3, h4⟩
      refine Ev.region ?_
      apply EvOps.run
      · intro call; simp [hl, h0, h4, h4', sliceA, hp2]; exact rfl
      refine ⟨(t.drop p.len).length, by rw [List.length_drop]; omega, _, h1, out1, t.drop p.len, l1 ++ [p], l2', rfl, by simp [hl], by simp [hl], by simp [h3], by simpa using hg1, hrest, by simpa using hcat, by rw [List.length_drop]; omega, ?_, rfl⟩
      rw [List.length_drop, List.length_append, List.length_singleton]; omega
  · exact ⟨_, _, _, s, [], l, rfl, by simp, by simp, by simp, Grow.nils _ _, hp, rfl, Nat.le_refl _, by simp, rfl⟩
end Go.Proofs.Ytnifldbmflkmpaa
