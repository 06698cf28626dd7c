/-
  num.Print: the run.
-/
import Derived.Test.YtnifldbmflkmpaaGd
namespace Go.Proofs.Ytnifldbmflkmpaa
open Go Ev
set_option linter.unusedVariables false
set_option linter.unusedSimpArgs false
set_option maxRecDepth 10000
theorem digs_step (n : Nat) (h : ¬ n < 10) : digs n = digs (n / 10) ++ [UInt8.ofNat (48 + n % 10)] := by rw [digs, if_neg h]
theorem digs_last (n : Nat) (h : n < 10) : digs n = [UInt8.ofNat (48 + n % 10)] := by rw [digs, if_pos h, Nat.mod_eq_of_lt h]
theorem drop_splice (c : List AV) (i : Nat) (v : AV) (h : i < c.length) : (splice c i [v]).drop i = v :: c.drop (i + 1) := by
  unfold splice
  rw [List.append_assoc, List.drop_append_of_le_length (by simp; omega), List.drop_of_length_le (by simp; omega)]
  simp
theorem splice_length (c : List AV) (i : Nat) (v : AV) (h : i < c.length) : (splice c i [v]).length = c.length := by
  unfold splice; simp; omega
theorem byte48 (d : Nat) (h : d < 10) : AV.int .u8 ((UInt8.ofNat (48 + d)).toNat : Int) = AV.int .u8 (48 + (d : Int)) := by
  congr 1
  simp only [UInt8.toNat_ofNat']
  omega
theorem bytesOf_ofBytes : ∀ s : S, bytesOf (ofBytes s) = some s
  | [] => rfl
  | b :: s => by
    have ih := bytesOf_ofBytes s
    simp only [ofBytes, List.map_cons] at ih ⊢
    simp only [bytesOf, ih, Option.map_some]
    simp
theorem ofBytes_length (s : S) : (ofBytes s).length = s.length := by simp [ofBytes]
set_option maxHeartbeats 2000000 in
theorem print_fin (n : Int) (fr : List AV) (c : List AV) (j : Nat) (hl : fr.length = 38) (g0 : slotAt fr 0 = some (.int .i64 n)) (g3 : slotAt fr 3 = some (.ptr 0 0)) (g4 : slotAt fr 4 = some (.int .i64 (j : Nat))) (hc : c.length = 20) (hs : c.drop j = ofBytes (digs n.natAbs)) (hj : 1 ≤ j) (hj' : j < 20) :
    Ev cfg 0 ((Try.f72.body.get rfl) |> fun c => match c with | .seq _ (.seq _ (.seq _ (.seq _ d))) => d | _ => .skip) ⟨fr, [.cells c], false⟩ (Done cfg Try.f72 (.str (decS n))) := by
  have last : ∀ (fr : List AV) (c : List AV) (i : Nat), fr.length = 38 → slotAt fr 3 = some (.ptr 0 0) → slotAt fr 4 = some (.int .i64 (i : Nat)) → c.length = 20 → i < 20 → c.drop i = ofBytes (decS n) →
      Ev cfg 0 ((Try.f72.body.get rfl) |> fun c => match c with | .seq _ (.seq _ (.seq _ (.seq _ (.seq _ d)))) => d | _ => .skip) ⟨fr, [.cells c], false⟩ (Done cfg Try.f72 (.str (decS n))) := by
    intro fr c i hl g3 g4 hc hi hs
    have htake : (c.drop i).take (20 - i) = ofBytes (decS n) := by rw [List.take_of_length_le (by simp [hc]), hs]
    refine Ev.seq (Ev.region ?_)
    apply EvOps.run
    · intro call; simp [hl, g3, g4, sliceA, show (i : Int) ≤ 20 by omega, show ¬ (20 = i) by omega, show i + (20 - i) ≤ c.length by omega, htake, bytesOf_ofBytes]; exact rfl
    exact Ev.ret ⟨_, by simp [Try.f72, hl]; rfl, by simp⟩
  refine Ev.seq (Ev.seq (Ev.region ?_))
  by_cases hn : n < 0
  · obtain ⟨i, rfl⟩ : ∃ i, j = i + 1 := ⟨j - 1, by omega⟩
    apply EvOps.run
    · intro call; simp [hl, g0, hn]; exact rfl
    refine Ev.cond true (by simp [hl]) (fun _ => ?_) (fun h => by simp at h)
    refine Ev.seq (Ev.region ?_)
    apply EvOps.run
    · intro call; simp [hl, g4, wrap_int (i : Int) (by omega) (by omega)]; exact rfl
    refine Ev.region ?_
    apply EvOps.run
    · intro call; simp [hl, g3, show ((i : Int) < 20) by omega, show i + 1 ≤ c.length by omega]; exact rfl
    refine last _ _ i (by simp [hl]) (by simp [g3]) (by simp [hl]) (by rw [splice_length _ _ _ (by omega)]; exact hc) (by omega) ?_
    rw [drop_splice _ _ _ (by omega), hs, decS, if_pos hn]
    rfl
  · apply EvOps.run
    · intro call; simp [hl, g0, hn]; exact rfl
    refine Ev.cond false (by simp [hl]) (fun h => by simp at h) (fun _ => Ev.skip ?_)
    exact last _ c j (by simp [hl]) (by simp [g3]) (by simp [g4]) hc hj' (by rw [hs, decS, if_neg hn])
set_option maxHeartbeats 2000000 in
theorem print_ok (n : Int) (h0 : -(2 ^ 63) ≤ n) (h1 : n < 2 ^ 63) : Ret cfg 72 [.int .i64 n] (.str (decS n)) := by
  refine Ret.of_body rfl rfl Try.func72 rfl (by simp) (by simp) ?_
  refine Ev.seq (Ev.region ?_)
  apply EvOps.run
  · intro call; simp [Try.f72]; exact rfl
  refine Ev.seq (Ev.region ?_)
  apply EvOps.run
  · intro call; simp; exact rfl
  refine Ev.seq (Ev.region ?_)
  apply EvOps.run
  · intro call; simp; exact rfl
  refine Ev.seq (Ev.seq (Ev.region ?_))
  apply EvOps.run
  · intro call; simp; exact rfl
  refine Ev.block ?_
  refine Ev.loop (fun m st => ∃ fr c left at_ suf, st = ⟨fr, [.cells c], false⟩ ∧ fr.length = 38 ∧ slotAt fr 0 = some (.int .i64 n) ∧ slotAt fr 3 = some (.ptr 0 0) ∧ slotAt fr 4 = some (.int .i64 (at_ : Nat)) ∧ slotAt fr 5 = some (.int .i64 left) ∧ c.length = 20 ∧ c.drop at_ = ofBytes suf ∧ digs n.natAbs = digs left.natAbs ++ suf ∧ at_ + suf.length = 20 ∧ (digs left.natAbs).length + suf.length ≤ 19 ∧ -(2 ^ 63) ≤ left ∧ left < 2 ^ 63 ∧ m = left.natAbs) ?_ n.natAbs _ ?_
  · rintro m st ⟨fr, c, left, at_, suf, rfl, hl, g0, g3, g4, g5, hc, hsuf, hdig, hat, hlen, hl0, hl1, rfl⟩
    have hpos := digs_pos left.natAbs
    refine Ev.seq (Ev.block (Ev.seq (Ev.region ?_)))
    have hd10 : left.natAbs % 10 < 10 := Nat.mod_lt _ (by omega)
    apply EvOps.keep (h' := [.cells c]) (d' := false) (fun fr => fr.length = 38 ∧ slotAt fr 0 = some (.int .i64 n) ∧ slotAt fr 3 = some (.ptr 0 0) ∧ slotAt fr 4 = some (.int .i64 (at_ : Nat)) ∧ slotAt fr 5 = some (.int .i64 left) ∧ slotAt fr 6 = some (.int .i64 (left.tmod 10)))
    · intro call; simp [hl, g5]; exact rfl
    · exact ⟨by simp [hl], by simp [g0], by simp [g3], by simp [g4], by simp [g5], by simp [hl]⟩
    clear hl g0 g3 g4 g5 fr
    rintro fr ⟨hl, g0, g3, g4, g5, g6⟩
    obtain ⟨D, hD⟩ : ∃ D, D = left.natAbs % 10 := ⟨_, rfl⟩
    obtain ⟨j, rfl⟩ : ∃ j, at_ = j + 1 := ⟨at_ - 1, by omega⟩
    rw [tmod10, ← hD] at g6
    rw [← hD] at hd10
    -- behind the sign of the digit
    have rest : ∀ fr : List AV, fr.length = 38 → slotAt fr 0 = some (.int .i64 n) → slotAt fr 3 = some (.ptr 0 0) → slotAt fr 4 = some (.int .i64 ((j + 1 : Nat) : Int)) → slotAt fr 5 = some (.int .i64 left) → slotAt fr 6 = some (.int .i64 (D : Nat)) →
        Ev cfg 0 ((Try.f72.body.get rfl) |> fun c => match c with | .seq _ (.seq _ (.seq _ (.seq (.seq _ (.block _ (.loop (.seq (.block _ (.seq _ (.seq _ d))) _)))) _))) => d | _ => .skip) ⟨fr, [.cells c], false⟩ (fun x s => ∃ fr', s = ⟨fr', [.cells (splice c j [.int .u8 (48 + (D : Int))])], false⟩ ∧ fr'.length = 38 ∧ slotAt fr' 0 = some (.int .i64 n) ∧ slotAt fr' 3 = some (.ptr 0 0) ∧ slotAt fr' 4 = some (.int .i64 (j : Nat)) ∧ slotAt fr' 5 = some (.int .i64 left) ∧ ((x = .exit 0 ∧ left.natAbs < 10) ∨ (x = .normal ∧ ¬ left.natAbs < 10))) := by
      intro fr hl g0 g3 g4 g5 g6
      refine Ev.seq (Ev.region ?_)
      apply EvOps.run
      · intro call; simp [hl, g4, wrap_int (j : Int) (by omega) (by omega)]; exact rfl
      refine Ev.seq (Ev.region ?_)
      apply EvOps.run
      · intro call; simp [hl, g3, g6, wrap_int (48 + (D : Int)) (by omega) (by omega), show ((j : Int) < 20) by omega, show j + 1 ≤ c.length by omega]; exact rfl
      have hu8 : IntKind.wrap .u8 (48 + (D : Int)) = 48 + (D : Int) := by have := wrap_u8 (48 + D) (by omega); simpa using this
      refine Ev.seq (Ev.region ?_)
      by_cases b1 : (-10 : Int) < left
      · by_cases b2 : left < 10
        · apply EvOps.run
          · intro call; simp [hl, g5, b1, b2]; exact rfl
          refine Ev.cond true (by simp [hl]) (fun _ => Ev.exit ?_) (fun h => by simp at h)
          exact ⟨_, by rw [hu8], by simp [hl], by simp [g0], by simp [g3], by simp [hl], by simp [g5], .inl ⟨rfl, by omega⟩⟩
        · apply EvOps.run
          · intro call; simp [hl, g5, b1, b2]; exact rfl
          refine Ev.cond false (by simp [hl]) (fun h => by simp at h) (fun _ => Ev.skip ?_)
          exact ⟨_, by rw [hu8], by simp [hl], by simp [g0], by simp [g3], by simp [hl], by simp [g5], .inr ⟨rfl, by omega⟩⟩
      · apply EvOps.run
        · intro call; simp [hl, g5, b1]; exact rfl
        refine Ev.cond false (by simp [hl]) (fun h => by simp at h) (fun _ => Ev.skip ?_)
        exact ⟨_, by rw [hu8], by simp [hl], by simp [g0], by simp [g3], by simp [hl], by simp [g5], .inr ⟨rfl, by omega⟩⟩
    have hcl : (splice c j [.int .u8 (48 + (D : Int))]).length = 20 := by rw [splice_length _ _ _ (by omega)]; exact hc
    have hdrop : (splice c j [.int .u8 (48 + (D : Int))]).drop j = ofBytes (UInt8.ofNat (48 + D) :: suf) := by
      rw [drop_splice _ _ _ (by omega), hsuf, ← byte48 D hd10]
      rfl
    refine Ev.seq (Ev.seq (Ev.region ?_))
    have hb : (left.tdiv 10).natAbs < 2 ^ 60 := by rw [tdiv10]; omega
    by_cases hneg : left < 0 ∧ D ≠ 0
    · rw [if_pos hneg.1] at g6
      apply EvOps.run
      · intro call; simp [hl, g6, show (-(D : Int) < 0) by omega]; exact rfl
      refine Ev.cond true (by simp [hl]; omega) (fun _ => ?_) (fun h => by simp at h)
      refine Ev.region ?_
      apply EvOps.run
      · intro call; simp [hl, g6, wrap_int (D : Int) (by omega) (by omega)]; exact rfl
      refine (rest _ (by simp [hl]) (by simp [g0]) (by simp [g3]) (by simp [g4]) (by simp [g5]) (by simp [hl])).mono ?_
      rintro x s ⟨fr', rfl, k1, k2, k3, k4, k5, ⟨rfl, hlt⟩ | ⟨rfl, hge⟩⟩
      · refine print_fin n fr' _ j k1 k2 k3 k4 hcl ?_ (by simp only [digs_last _ hlt, List.length_cons, List.length_nil] at hlen; omega) (by omega)
        rw [hdrop, hdig, digs_last _ hlt, hD]
        rfl
      · have hstep := digs_step _ hge
        refine Ev.region ?_
        apply EvOps.run
        · intro call; simp [k1, k5, wrap_int (left.tdiv 10) (by omega) (by omega)]; exact rfl
        refine ⟨(left.tdiv 10).natAbs, by rw [tdiv10]; omega, _, _, left.tdiv 10, j, UInt8.ofNat (48 + D) :: suf, rfl, by simp [k1], by simp [k2], by simp [k3], by simp [k4], by simp [k1], hcl, hdrop, ?_, by simp only [List.length_cons]; omega, ?_, by omega, by omega, rfl⟩
        · rw [hdig, hstep, tdiv10, hD, List.append_assoc]; rfl
        · rw [hstep, List.length_append] at hlen; rw [tdiv10]; simp only [List.length_cons, List.length_nil] at hlen ⊢; omega
    · have g6' : slotAt fr 6 = some (.int .i64 (D : Nat)) := by
        rw [g6]
        split
        · rename_i h
          have : D = 0 := Classical.byContradiction fun hd => hneg ⟨h, hd⟩
          subst this; rfl
        · rfl
      apply EvOps.run
      · intro call; simp [hl, g6']; exact rfl
      refine Ev.cond false (by simp [hl] <;> omega) (fun h => by simp at h) (fun _ => Ev.skip ?_)
      refine (rest _ (by simp [hl]) (by simp [g0]) (by simp [g3]) (by simp [g4]) (by simp [g5]) (by simp [g6'])).mono ?_
      rintro x s ⟨fr', rfl, k1, k2, k3, k4, k5, ⟨rfl, hlt⟩ | ⟨rfl, hge⟩⟩
      · refine print_fin n fr' _ j k1 k2 k3 k4 hcl ?_ (by simp only [digs_last _ hlt, List.length_cons, List.length_nil] at hlen; omega) (by omega)
        rw [hdrop, hdig, digs_last _ hlt, hD]
        rfl
      · have hstep := digs_step _ hge
        refine Ev.region ?_
        apply EvOps.run
        · intro call; simp [k1, k5, wrap_int (left.tdiv 10) (by omega) (by omega)]; exact rfl
        refine ⟨(left.tdiv 10).natAbs, by rw [tdiv10]; omega, _, _, left.tdiv 10, j, UInt8.ofNat (48 + D) :: suf, rfl, by simp [k1], by simp [k2], by simp [k3], by simp [k4], by simp [k1], hcl, hdrop, ?_, by simp only [List.length_cons]; omega, ?_, by omega, by omega, rfl⟩
        · rw [hdig, hstep, tdiv10, hD, List.append_assoc]; rfl
        · rw [hstep, List.length_append] at hlen; rw [tdiv10]; simp only [List.length_cons, List.length_nil] at hlen ⊢; omega
  · exact ⟨_, _, n, 20, [], rfl, by simp, by simp, by simp, by simp, by simp, by simp, by simp [ofBytes], by simp, by simp, by have := digs_length 19 n.natAbs (by omega) (by omega); simpa using this, h0, h1, rfl⟩
end Go.Proofs.Ytnifldbmflkmpaa
