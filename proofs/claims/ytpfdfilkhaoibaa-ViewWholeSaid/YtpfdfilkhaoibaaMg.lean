/-
  Parts, one behind the other: Va_1.
-/
import Derived.Test.YtpfdfilkhaoibaaMf
/-
  Lifted functions.
-/
namespace Go.Proofs.Ytpfdfilkhaoibaa
open Go Ev
set_option linter.unusedVariables false
set_option linter.unusedSimpArgs false
set_option maxRecDepth 100000
/-- pentimento/view.Ints -/
def F37_l4_b (k : Nat) (a0 : List S) : (List Int) × Int → Option (Sum ((List Int) × Int) (Sum ((List Int)) ((List Int) × Int))) := fun lv =>
  match lv with | (v2, v4) => (if decide ((v4 : Int) < (List.length a0 : Int)) = true then (getAt a0 v4).bind fun x14 => (F78 k x14).bind fun r15 => (if (!r15.2) = true then some (Sum.inr (Sum.inr ([], 41))) else (chk (List.length v2 + List.length [r15.1] ≤ 1073741824)).bind fun _ => some (Sum.inl (v2 ++ [r15.1], IntKind.wrap .i64 (v4 + (1 : Int))))) else some (Sum.inr (Sum.inl v2)))
def F37_l4 (k : Nat) (a0 : List S) : Nat → (List Int) × Int → Option (Sum ((List Int)) ((List Int) × Int))
  | 0, _ => none
  | m + 1, lv => (F37_l4_b k a0 lv).bind fun s => match s with | .inl lv => F37_l4 k a0 m lv | .inr o => some o
def F37 (k : Nat) (a0 : List S) : Option ((List Int) × Int) :=
  (F37_l4 k a0 k ([], 0)).bind fun o20 => (match o20 with | (Sum.inl v7) => some ((v7, 0)) | (Sum.inr (v10, v12)) => some ((v10, v12)))
set_option maxHeartbeats 8000000 in
theorem F37_ok {k : Nat} {a0 : List S} {r : (List Int) × Int} (hg : F37 k a0 = some r) : Ret cfg 37 [AV.L (a0.map AV.str)] (AV.tuple [AV.L (r.1.map (AV.int .i64)), AV.int .i64 r.2]) := by
  unfold F37 at hg
  refine Ret.of_body rfl rfl Try.func37 rfl (by simp [strs, stripL_bytes, cleanL_bytes, headOk_bytes]) (by simp [strs, stripL_bytes, cleanL_bytes, headOk_bytes]) ?_
  obtain ⟨fr, hfr⟩ : ∃ fr, fr = [AV.L (a0.map AV.str)] ++ List.replicate (Try.f37.ntmps - [AV.L (a0.map AV.str)].length) AV.undef := ⟨_, rfl⟩
  rw [← hfr]
  have hl : fr.length = 28 := by rw [hfr]; rfl
  have s0 : slotAt fr 0 = some (.list (a0.map AV.str) false none none) := by rw [hfr]; first | rfl | simp [aR_eq, aR_eq]
  clear hfr
  refine Ev.seq ?_
  refine Ev.region ?_
  apply EvOps.keep (h' := []) (d' := false) (fun fr => fr.length = 28 ∧ slotAt fr 0 = some (.list (a0.map AV.str) false none none))
  · intro call; simp [hl, s0, ofBytes_length, bytesOf_ofBytes, stripL_bytes, cleanL_bytes, headOk_bytes, strs, minsA, minA, sliceA, buildSliceA, buildA, structPlaces, fillA, splice, bytesOf, aR_eq, aR_eq]; exact rfl
  · exact ⟨by simp [hl], by simp [hl, s0, ofBytes_length, bytesOf_ofBytes, stripL_bytes, cleanL_bytes, headOk_bytes, strs, minsA, minA, sliceA, buildSliceA, buildA, structPlaces, fillA, splice, bytesOf, aR_eq, aR_eq]⟩
  clear hl s0 fr
  rintro fr ⟨hl, s0⟩
  refine Ev.seq ?_
  refine Ev.region ?_
  apply EvOps.keep (h' := []) (d' := false) (fun fr => fr.length = 28 ∧ slotAt fr 0 = some (.list (a0.map AV.str) false none none) ∧ slotAt fr 4 = some (.nils))
  · intro call; simp [hl, s0, ofBytes_length, bytesOf_ofBytes, stripL_bytes, cleanL_bytes, headOk_bytes, strs, minsA, minA, sliceA, buildSliceA, buildA, structPlaces, fillA, splice, bytesOf, aR_eq, aR_eq]; exact rfl
  · exact ⟨by simp [hl], by simp [hl, s0, ofBytes_length, bytesOf_ofBytes, stripL_bytes, cleanL_bytes, headOk_bytes, strs, minsA, minA, sliceA, buildSliceA, buildA, structPlaces, fillA, splice, bytesOf, aR_eq, aR_eq], by simp [hl, s0, ofBytes_length, bytesOf_ofBytes, stripL_bytes, cleanL_bytes, headOk_bytes, strs, minsA, minA, sliceA, buildSliceA, buildA, structPlaces, fillA, splice, bytesOf, aR_eq, aR_eq]⟩
  clear hl s0 fr
  rintro fr ⟨hl, s0, s4⟩
  refine Ev.seq ?_
  refine Ev.seq ?_
  refine Ev.region ?_
  apply EvOps.keep (h' := []) (d' := false) (fun fr => fr.length = 28 ∧ slotAt fr 4 = some (.nils) ∧ slotAt fr 9 = some (.list (a0.map AV.str) false none none) ∧ slotAt fr 10 = some (AV.int .i64 ((List.length a0 : Int))) ∧ slotAt fr 11 = some (AV.int .i64 0))
  · intro call; simp [hl, s0, s4, ofBytes_length, bytesOf_ofBytes, stripL_bytes, cleanL_bytes, headOk_bytes, strs, minsA, minA, sliceA, buildSliceA, buildA, structPlaces, fillA, splice, bytesOf, aR_eq, aR_eq]; exact rfl
  · exact ⟨by simp [hl], by simp [hl, s0, s4, ofBytes_length, bytesOf_ofBytes, stripL_bytes, cleanL_bytes, headOk_bytes, strs, minsA, minA, sliceA, buildSliceA, buildA, structPlaces, fillA, splice, bytesOf, aR_eq, aR_eq], by simp [hl, s0, s4, ofBytes_length, bytesOf_ofBytes, stripL_bytes, cleanL_bytes, headOk_bytes, strs, minsA, minA, sliceA, buildSliceA, buildA, structPlaces, fillA, splice, bytesOf, aR_eq, aR_eq], by simp [hl, s0, s4, ofBytes_length, bytesOf_ofBytes, stripL_bytes, cleanL_bytes, headOk_bytes, strs, minsA, minA, sliceA, buildSliceA, buildA, structPlaces, fillA, splice, bytesOf, aR_eq, aR_eq], by simp [hl, s0, s4, ofBytes_length, bytesOf_ofBytes, stripL_bytes, cleanL_bytes, headOk_bytes, strs, minsA, minA, sliceA, buildSliceA, buildA, structPlaces, fillA, splice, bytesOf, aR_eq, aR_eq]⟩
  clear hl s0 s4 fr
  rintro fr ⟨hl, s4, s9, s10, s11⟩
  refine Ev.block ?_
  obtain ⟨o20, eo20, hg⟩ := bind_some hg
  refine Ev.loopJ (fun x st => (x = .exit 0 ∧ ∃ (fr : List AV) (h6 : Heap) (v7 : List Int) (X8 : AV), st = ⟨fr, h6, false⟩ ∧ fr.length = 28 ∧ slotAt fr 4 = some (X8) ∧ Grow 1 h6 X8 (v7.map (AV.int .i64)) ∧ o20 = (Sum.inl v7)) ∨ (x = .ret ∧ ∃ (fr : List AV) (h9 : Heap) (v10 : List Int) (X11 : AV) (v12 : Int), st = ⟨fr, h9, false⟩ ∧ fr.length = 28 ∧ slotAt fr 2 = some (X11) ∧ slotAt fr 3 = some (AV.int .i64 v12) ∧ LV X11 (v10.map (AV.int .i64)) ∧ o20 = (Sum.inr (v10, v12)))) (fun m st => ∃ (fr : List AV) (h1 : Heap) (v2 : List Int) (X3 : AV) (v4 : Int), st = ⟨fr, h1, false⟩ ∧ fr.length = 28 ∧ slotAt fr 4 = some (X3) ∧ slotAt fr 9 = some (.list (a0.map AV.str) false none none) ∧ slotAt fr 10 = some (AV.int .i64 ((List.length a0 : Int))) ∧ slotAt fr 11 = some (AV.int .i64 v4) ∧ Grow 1 h1 X3 (v2.map (AV.int .i64)) ∧ F37_l4 k a0 m (v2, v4) = some o20) k _ ?_ ?_ ?_
  · exact ⟨_, [], [], .nils, 0, rfl, hl, by simp [hl, s4, s9, s10, s11, ofBytes_length, bytesOf_ofBytes, stripL_bytes, cleanL_bytes, headOk_bytes, strs, minsA, minA, sliceA, buildSliceA, buildA, structPlaces, fillA, splice, bytesOf, aR_eq, aR_eq], by simp [hl, s4, s9, s10, s11, ofBytes_length, bytesOf_ofBytes, stripL_bytes, cleanL_bytes, headOk_bytes, strs, minsA, minA, sliceA, buildSliceA, buildA, structPlaces, fillA, splice, bytesOf, aR_eq, aR_eq], by simp [hl, s4, s9, s10, s11, ofBytes_length, bytesOf_ofBytes, stripL_bytes, cleanL_bytes, headOk_bytes, strs, minsA, minA, sliceA, buildSliceA, buildA, structPlaces, fillA, splice, bytesOf, aR_eq, aR_eq], by simp [hl, s4, s9, s10, s11, ofBytes_length, bytesOf_ofBytes, stripL_bytes, cleanL_bytes, headOk_bytes, strs, minsA, minA, sliceA, buildSliceA, buildA, structPlaces, fillA, splice, bytesOf, aR_eq, aR_eq], (Grow.nils _ _), eo20⟩
  · clear hg eo20 hl s4 s9 s10 s11 fr
    rintro m st ⟨fr, h1, v2, X3, v4, rfl, hl, s4, s9, s10, s11, g_X3, hg⟩
    cases m with
    | zero => simp [F37_l4] at hg
    | succ m =>
    rw [F37_l4] at hg
    obtain ⟨s, hb, hstep⟩ := bind_some hg
    clear hg
    have hg := hb; clear hb
    unfold F37_l4_b at hg
    try dsimp only at hg
    have u_X3 := Grow.one1 g_X3; unfold AV.one at u_X3
    have v_X3 := Grow.cells1 g_X3; unfold AV.cells at v_X3
    refine Ev.seq ?_
    refine Ev.region ?_
    apply EvOps.keep (h' := h1) (d' := false) (fun fr => fr.length = 28 ∧ slotAt fr 4 = some (X3) ∧ slotAt fr 9 = some (.list (a0.map AV.str) false none none) ∧ slotAt fr 10 = some (AV.int .i64 ((List.length a0 : Int))) ∧ slotAt fr 11 = some (AV.int .i64 v4) ∧ slotAt fr 12 = some (AV.bool (decide ((v4 : Int) < (List.length a0 : Int)))))
    · intro call; simp [hl, s4, s9, s10, s11, u_X3, v_X3, ofBytes_length, bytesOf_ofBytes, stripL_bytes, cleanL_bytes, headOk_bytes, strs, minsA, minA, sliceA, buildSliceA, buildA, structPlaces, fillA, splice, bytesOf, aR_eq, aR_eq]; exact rfl
    · exact ⟨by simp [hl], by simp [hl, s4, s9, s10, s11, u_X3, v_X3, ofBytes_length, bytesOf_ofBytes, stripL_bytes, cleanL_bytes, headOk_bytes, strs, minsA, minA, sliceA, buildSliceA, buildA, structPlaces, fillA, splice, bytesOf, aR_eq, aR_eq], by simp [hl, s4, s9, s10, s11, u_X3, v_X3, ofBytes_length, bytesOf_ofBytes, stripL_bytes, cleanL_bytes, headOk_bytes, strs, minsA, minA, sliceA, buildSliceA, buildA, structPlaces, fillA, splice, bytesOf, aR_eq, aR_eq], by simp [hl, s4, s9, s10, s11, u_X3, v_X3, ofBytes_length, bytesOf_ofBytes, stripL_bytes, cleanL_bytes, headOk_bytes, strs, minsA, minA, sliceA, buildSliceA, buildA, structPlaces, fillA, splice, bytesOf, aR_eq, aR_eq], by simp [hl, s4, s9, s10, s11, u_X3, v_X3, ofBytes_length, bytesOf_ofBytes, stripL_bytes, cleanL_bytes, headOk_bytes, strs, minsA, minA, sliceA, buildSliceA, buildA, structPlaces, fillA, splice, bytesOf, aR_eq, aR_eq], by simp [hl, s4, s9, s10, s11, u_X3, v_X3, ofBytes_length, bytesOf_ofBytes, stripL_bytes, cleanL_bytes, headOk_bytes, strs, minsA, minA, sliceA, buildSliceA, buildA, structPlaces, fillA, splice, bytesOf, aR_eq, aR_eq]⟩
    clear hl s4 s9 s10 s11 fr
    rintro fr ⟨hl, s4, s9, s10, s11, s12⟩
    refine Ev.seq ?_
    refine Ev.cond (decide ((v4 : Int) < (List.length a0 : Int))) (by simp [hl, s4, s9, s10, s11, s12, u_X3, v_X3, ofBytes_length, bytesOf_ofBytes, stripL_bytes, cleanL_bytes, headOk_bytes, strs, minsA, minA, sliceA, buildSliceA, buildA, structPlaces, fillA, splice, bytesOf, aR_eq, aR_eq]) (fun h_13 => ?_) (fun h_13 => ?_)
    · rw [if_pos h_13] at hg
      refine Ev.skip ?_
      refine Ev.seq ?_
      refine Ev.block ?_
      refine Ev.seq ?_
      refine Ev.region ?_
      obtain ⟨x14, ex14, hg⟩ := bind_some hg
      obtain ⟨ex14a, ex14b, ex14c, ex14d⟩ := getAt_some ex14
      have yex14b := ex14b
      try simp at yex14b
      have yex14d := ex14d
      try simp at yex14d
      apply EvOps.keep (h' := h1) (d' := false) (fun fr => fr.length = 28 ∧ slotAt fr 4 = some (X3) ∧ slotAt fr 6 = some (AV.str x14) ∧ slotAt fr 9 = some (.list (a0.map AV.str) false none none) ∧ slotAt fr 10 = some (AV.int .i64 ((List.length a0 : Int))) ∧ slotAt fr 11 = some (AV.int .i64 v4))
      · intro call; simp [hl, s4, s9, s10, s11, s12, u_X3, v_X3, ex14a, ex14b, ex14c, ex14d, yex14b, yex14d, ofBytes_length, bytesOf_ofBytes, stripL_bytes, cleanL_bytes, headOk_bytes, strs, minsA, minA, sliceA, buildSliceA, buildA, structPlaces, fillA, splice, bytesOf, aR_eq, aR_eq]; exact rfl
      · exact ⟨by simp [hl], by simp [hl, s4, s9, s10, s11, s12, u_X3, v_X3, ex14a, ex14b, ex14c, ex14d, yex14b, yex14d, ofBytes_length, bytesOf_ofBytes, stripL_bytes, cleanL_bytes, headOk_bytes, strs, minsA, minA, sliceA, buildSliceA, buildA, structPlaces, fillA, splice, bytesOf, aR_eq, aR_eq], by simp [hl, s4, s9, s10, s11, s12, u_X3, v_X3, ex14a, ex14b, ex14c, ex14d, yex14b, yex14d, ofBytes_length, bytesOf_ofBytes, stripL_bytes, cleanL_bytes, headOk_bytes, strs, minsA, minA, sliceA, buildSliceA, buildA, structPlaces, fillA, splice, bytesOf, aR_eq, aR_eq], by simp [hl, s4, s9, s10, s11, s12, u_X3, v_X3, ex14a, ex14b, ex14c, ex14d, yex14b, yex14d, ofBytes_length, bytesOf_ofBytes, stripL_bytes, cleanL_bytes, headOk_bytes, strs, minsA, minA, sliceA, buildSliceA, buildA, structPlaces, fillA, splice, bytesOf, aR_eq, aR_eq], by simp [hl, s4, s9, s10, s11, s12, u_X3, v_X3, ex14a, ex14b, ex14c, ex14d, yex14b, yex14d, ofBytes_length, bytesOf_ofBytes, stripL_bytes, cleanL_bytes, headOk_bytes, strs, minsA, minA, sliceA, buildSliceA, buildA, structPlaces, fillA, splice, bytesOf, aR_eq, aR_eq], by simp [hl, s4, s9, s10, s11, s12, u_X3, v_X3, ex14a, ex14b, ex14c, ex14d, yex14b, yex14d, ofBytes_length, bytesOf_ofBytes, stripL_bytes, cleanL_bytes, headOk_bytes, strs, minsA, minA, sliceA, buildSliceA, buildA, structPlaces, fillA, splice, bytesOf, aR_eq, aR_eq]⟩
      clear hl s4 s9 s10 s11 s12 fr
      rintro fr ⟨hl, s4, s6, s9, s10, s11⟩
      refine Ev.seq ?_
      refine Ev.region ?_
      obtain ⟨r15, er15, hg⟩ := bind_some hg
      refine EvOps.take 1 ?_
      apply EvOps.run
      · intro call; simp [hl, s4, s6, s9, s10, s11, u_X3, v_X3, ofBytes_length, bytesOf_ofBytes, stripL_bytes, cleanL_bytes, headOk_bytes, strs, minsA, minA, sliceA, buildSliceA, buildA, structPlaces, fillA, splice, bytesOf, aR_eq, aR_eq]; exact rfl
      refine EvOps.call rfl (by simp [hl, s4, s6, s9, s10, s11, u_X3, v_X3, ofBytes_length, bytesOf_ofBytes, stripL_bytes, cleanL_bytes, headOk_bytes, strs, minsA, minA, sliceA, buildSliceA, buildA, structPlaces, fillA, splice, bytesOf, aR_eq, aR_eq]) (by simp [hl, s4, s6, s9, s10, s11, u_X3, v_X3, ofBytes_length, bytesOf_ofBytes, stripL_bytes, cleanL_bytes, headOk_bytes, strs, minsA, minA, sliceA, buildSliceA, buildA, structPlaces, fillA, splice, bytesOf, aR_eq, aR_eq] <;> exact rfl) (by simp [hl, s4, s6, s9, s10, s11, u_X3, v_X3, ofBytes_length, bytesOf_ofBytes, stripL_bytes, cleanL_bytes, headOk_bytes, strs, minsA, minA, sliceA, buildSliceA, buildA, structPlaces, fillA, splice, bytesOf, aR_eq, aR_eq, Grow.strip g_X3] <;> exact rfl) (F78_ok er15) ?_
      apply EvOps.keep (h' := h1) (d' := false) (fun fr => fr.length = 28 ∧ slotAt fr 4 = some (X3) ∧ slotAt fr 7 = some (AV.int .i64 r15.1) ∧ slotAt fr 8 = some (AV.bool r15.2) ∧ slotAt fr 9 = some (.list (a0.map AV.str) false none none) ∧ slotAt fr 10 = some (AV.int .i64 ((List.length a0 : Int))) ∧ slotAt fr 11 = some (AV.int .i64 v4))
      · intro call; simp [hl, s4, s6, s9, s10, s11, u_X3, v_X3, ofBytes_length, bytesOf_ofBytes, stripL_bytes, cleanL_bytes, headOk_bytes, strs, minsA, minA, sliceA, buildSliceA, buildA, structPlaces, fillA, splice, bytesOf, aR_eq, aR_eq]; exact rfl
      · exact ⟨by simp [hl], by simp [hl, s4, s6, s9, s10, s11, u_X3, v_X3, ofBytes_length, bytesOf_ofBytes, stripL_bytes, cleanL_bytes, headOk_bytes, strs, minsA, minA, sliceA, buildSliceA, buildA, structPlaces, fillA, splice, bytesOf, aR_eq, aR_eq], by simp [hl, s4, s6, s9, s10, s11, u_X3, v_X3, ofBytes_length, bytesOf_ofBytes, stripL_bytes, cleanL_bytes, headOk_bytes, strs, minsA, minA, sliceA, buildSliceA, buildA, structPlaces, fillA, splice, bytesOf, aR_eq, aR_eq], by simp [hl, s4, s6, s9, s10, s11, u_X3, v_X3, ofBytes_length, bytesOf_ofBytes, stripL_bytes, cleanL_bytes, headOk_bytes, strs, minsA, minA, sliceA, buildSliceA, buildA, structPlaces, fillA, splice, bytesOf, aR_eq, aR_eq], by simp [hl, s4, s6, s9, s10, s11, u_X3, v_X3, ofBytes_length, bytesOf_ofBytes, stripL_bytes, cleanL_bytes, headOk_bytes, strs, minsA, minA, sliceA, buildSliceA, buildA, structPlaces, fillA, splice, bytesOf, aR_eq, aR_eq], by simp [hl, s4, s6, s9, s10, s11, u_X3, v_X3, ofBytes_length, bytesOf_ofBytes, stripL_bytes, cleanL_bytes, headOk_bytes, strs, minsA, minA, sliceA, buildSliceA, buildA, structPlaces, fillA, splice, bytesOf, aR_eq, aR_eq], by simp [hl, s4, s6, s9, s10, s11, u_X3, v_X3, ofBytes_length, bytesOf_ofBytes, stripL_bytes, cleanL_bytes, headOk_bytes, strs, minsA, minA, sliceA, buildSliceA, buildA, structPlaces, fillA, splice, bytesOf, aR_eq, aR_eq]⟩
      clear hl s4 s6 s9 s10 s11 fr
      rintro fr ⟨hl, s4, s7, s8, s9, s10, s11⟩
      refine Ev.seq ?_
      refine Ev.seq ?_
      refine Ev.region ?_
      apply EvOps.keep (h' := h1) (d' := false) (fun fr => fr.length = 28 ∧ slotAt fr 4 = some (X3) ∧ slotAt fr 7 = some (AV.int .i64 r15.1) ∧ slotAt fr 9 = some (.list (a0.map AV.str) false none none) ∧ slotAt fr 10 = some (AV.int .i64 ((List.length a0 : Int))) ∧ slotAt fr 11 = some (AV.int .i64 v4) ∧ slotAt fr 21 = some (AV.bool ((!r15.2))))
      · intro call; simp [hl, s4, s7, s8, s9, s10, s11, u_X3, v_X3, ofBytes_length, bytesOf_ofBytes, stripL_bytes, cleanL_bytes, headOk_bytes, strs, minsA, minA, sliceA, buildSliceA, buildA, structPlaces, fillA, splice, bytesOf, aR_eq, aR_eq]; exact rfl
      · exact ⟨by simp [hl], by simp [hl, s4, s7, s8, s9, s10, s11, u_X3, v_X3, ofBytes_length, bytesOf_ofBytes, stripL_bytes, cleanL_bytes, headOk_bytes, strs, minsA, minA, sliceA, buildSliceA, buildA, structPlaces, fillA, splice, bytesOf, aR_eq, aR_eq], by simp [hl, s4, s7, s8, s9, s10, s11, u_X3, v_X3, ofBytes_length, bytesOf_ofBytes, stripL_bytes, cleanL_bytes, headOk_bytes, strs, minsA, minA, sliceA, buildSliceA, buildA, structPlaces, fillA, splice, bytesOf, aR_eq, aR_eq], by simp [hl, s4, s7, s8, s9, s10, s11, u_X3, v_X3, ofBytes_length, bytesOf_ofBytes, stripL_bytes, cleanL_bytes, headOk_bytes, strs, minsA, minA, sliceA, buildSliceA, buildA, structPlaces, fillA, splice, bytesOf, aR_eq, aR_eq], by simp [hl, s4, s7, s8, s9, s10, s11, u_X3, v_X3, ofBytes_length, bytesOf_ofBytes, stripL_bytes, cleanL_bytes, headOk_bytes, strs, minsA, minA, sliceA, buildSliceA, buildA, structPlaces, fillA, splice, bytesOf, aR_eq, aR_eq], by simp [hl, s4, s7, s8, s9, s10, s11, u_X3, v_X3, ofBytes_length, bytesOf_ofBytes, stripL_bytes, cleanL_bytes, headOk_bytes, strs, minsA, minA, sliceA, buildSliceA, buildA, structPlaces, fillA, splice, bytesOf, aR_eq, aR_eq], by simp [hl, s4, s7, s8, s9, s10, s11, u_X3, v_X3, ofBytes_length, bytesOf_ofBytes, stripL_bytes, cleanL_bytes, headOk_bytes, strs, minsA, minA, sliceA, buildSliceA, buildA, structPlaces, fillA, splice, bytesOf, aR_eq, aR_eq]⟩
      clear hl s4 s7 s8 s9 s10 s11 fr
      rintro fr ⟨hl, s4, s7, s9, s10, s11, s21⟩
      refine Ev.cond ((!r15.2)) (by simp [hl, s4, s7, s9, s10, s11, s21, u_X3, v_X3, ofBytes_length, bytesOf_ofBytes, stripL_bytes, cleanL_bytes, headOk_bytes, strs, minsA, minA, sliceA, buildSliceA, buildA, structPlaces, fillA, splice, bytesOf, aR_eq, aR_eq]) (fun h_16 => ?_) (fun h_16 => ?_)
      · rw [if_pos h_16] at hg
        refine Ev.seq ?_
        refine Ev.region ?_
        apply EvOps.keep (h' := h1) (d' := false) (fun fr => fr.length = 28 ∧ slotAt fr 2 = some (.nils) ∧ slotAt fr 3 = some (AV.int .i64 41))
        · intro call; simp [hl, s4, s7, s9, s10, s11, s21, u_X3, v_X3, ofBytes_length, bytesOf_ofBytes, stripL_bytes, cleanL_bytes, headOk_bytes, strs, minsA, minA, sliceA, buildSliceA, buildA, structPlaces, fillA, splice, bytesOf, aR_eq, aR_eq]; exact rfl
        · exact ⟨by simp [hl], by simp [hl, s4, s7, s9, s10, s11, s21, u_X3, v_X3, ofBytes_length, bytesOf_ofBytes, stripL_bytes, cleanL_bytes, headOk_bytes, strs, minsA, minA, sliceA, buildSliceA, buildA, structPlaces, fillA, splice, bytesOf, aR_eq, aR_eq], by simp [hl, s4, s7, s9, s10, s11, s21, u_X3, v_X3, ofBytes_length, bytesOf_ofBytes, stripL_bytes, cleanL_bytes, headOk_bytes, strs, minsA, minA, sliceA, buildSliceA, buildA, structPlaces, fillA, splice, bytesOf, aR_eq, aR_eq]⟩
        clear hl s4 s7 s9 s10 s11 s21 fr
        rintro fr ⟨hl, s2, s3⟩
        refine Ev.ret ?_
        have hs := Option.some.inj hg; subst hs; clear hg; have ho := Option.some.inj hstep; subst ho
        exact .inr (⟨rfl, _, h1, [], .nils, 41, rfl, hl, by simp [hl, s2, s3, u_X3, v_X3, ofBytes_length, bytesOf_ofBytes, stripL_bytes, cleanL_bytes, headOk_bytes, strs, minsA, minA, sliceA, buildSliceA, buildA, structPlaces, fillA, splice, bytesOf, aR_eq, aR_eq], by simp [hl, s2, s3, u_X3, v_X3, ofBytes_length, bytesOf_ofBytes, stripL_bytes, cleanL_bytes, headOk_bytes, strs, minsA, minA, sliceA, buildSliceA, buildA, structPlaces, fillA, splice, bytesOf, aR_eq, aR_eq], (.inl ⟨rfl, rfl⟩), rfl⟩)
      · rw [if_neg (by rw [h_16]; simp)] at hg
        refine Ev.skip ?_
        refine Ev.region ?_
        obtain ⟨u17, eu17, hg⟩ := bind_some hg
        have eu17 := chk_some eu17
        refine EvOps.take 3 ?_
        apply EvOps.run
        · intro call; simp [hl, s4, s7, s9, s10, s11, s21, u_X3, v_X3, ofBytes_length, bytesOf_ofBytes, stripL_bytes, cleanL_bytes, headOk_bytes, strs, minsA, minA, sliceA, buildSliceA, buildA, structPlaces, fillA, splice, bytesOf, aR_eq, aR_eq]; exact rfl
        refine EvOps.appendG (x := X3) (y := .list [AV.int .i64 r15.1] true (some 1) none) (zs := (v2 ++ [r15.1]).map (AV.int .i64)) rfl rfl (by simp [hl, s4, s7, s9, s10, s11, s21, u_X3, v_X3, ofBytes_length, bytesOf_ofBytes, stripL_bytes, cleanL_bytes, headOk_bytes, strs, minsA, minA, sliceA, buildSliceA, buildA, structPlaces, fillA, splice, bytesOf, aR_eq, aR_eq]) (by simp [hl, s4, s7, s9, s10, s11, s21, u_X3, v_X3, ofBytes_length, bytesOf_ofBytes, stripL_bytes, cleanL_bytes, headOk_bytes, strs, minsA, minA, sliceA, buildSliceA, buildA, structPlaces, fillA, splice, bytesOf, aR_eq, aR_eq]) Try.underlying103 Try.underlying103 rfl Ty.s3 Ty.b3 Ty.z3 rfl g_X3 (by simp [hl, s4, s7, s9, s10, s11, s21, u_X3, v_X3, ofBytes_length, bytesOf_ofBytes, stripL_bytes, cleanL_bytes, headOk_bytes, strs, minsA, minA, sliceA, buildSliceA, buildA, structPlaces, fillA, splice, bytesOf, aR_eq, aR_eq]) (ys := [AV.int .i64 r15.1]) (by simp [elemsA, hl, s4, s7, s9, s10, s11, s21, u_X3, v_X3, ofBytes_length, bytesOf_ofBytes, stripL_bytes, cleanL_bytes, headOk_bytes, strs, minsA, minA, sliceA, buildSliceA, buildA, structPlaces, fillA, splice, bytesOf, aR_eq, aR_eq]) (by have := eu17; simp at this ⊢; omega) (fun _ _ => Nat.zero_le _) (Nat.zero_le _) (by simp [ofBytes_append, Grow.strip g_X3, hl, s4, s7, s9, s10, s11, s21, u_X3, v_X3, ofBytes_length, bytesOf_ofBytes, stripL_bytes, cleanL_bytes, headOk_bytes, strs, minsA, minA, sliceA, buildSliceA, buildA, structPlaces, fillA, splice, bytesOf, aR_eq, aR_eq]) ?_
        intro X18 h19 g_X18 st_ t_X18
        clear st_
        have u_X18 := Grow.one1 g_X18; unfold AV.one at u_X18
        have v_X18 := Grow.cells1 g_X18; unfold AV.cells at v_X18
        apply EvOps.keep (h' := h19) (d' := false) (fun fr => fr.length = 28 ∧ slotAt fr 4 = some (X18) ∧ slotAt fr 9 = some (.list (a0.map AV.str) false none none) ∧ slotAt fr 10 = some (AV.int .i64 ((List.length a0 : Int))) ∧ slotAt fr 11 = some (AV.int .i64 v4))
        · intro call; simp [hl, s4, s7, s9, s10, s11, s21, u_X18, v_X18, ofBytes_length, bytesOf_ofBytes, stripL_bytes, cleanL_bytes, headOk_bytes, strs, minsA, minA, sliceA, buildSliceA, buildA, structPlaces, fillA, splice, bytesOf, aR_eq, aR_eq]; exact rfl
        · exact ⟨by simp [hl], by simp [hl, s4, s7, s9, s10, s11, s21, u_X18, v_X18, ofBytes_length, bytesOf_ofBytes, stripL_bytes, cleanL_bytes, headOk_bytes, strs, minsA, minA, sliceA, buildSliceA, buildA, structPlaces, fillA, splice, bytesOf, aR_eq, aR_eq], by simp [hl, s4, s7, s9, s10, s11, s21, u_X18, v_X18, ofBytes_length, bytesOf_ofBytes, stripL_bytes, cleanL_bytes, headOk_bytes, strs, minsA, minA, sliceA, buildSliceA, buildA, structPlaces, fillA, splice, bytesOf, aR_eq, aR_eq], by simp [hl, s4, s7, s9, s10, s11, s21, u_X18, v_X18, ofBytes_length, bytesOf_ofBytes, stripL_bytes, cleanL_bytes, headOk_bytes, strs, minsA, minA, sliceA, buildSliceA, buildA, structPlaces, fillA, splice, bytesOf, aR_eq, aR_eq], by simp [hl, s4, s7, s9, s10, s11, s21, u_X18, v_X18, ofBytes_length, bytesOf_ofBytes, stripL_bytes, cleanL_bytes, headOk_bytes, strs, minsA, minA, sliceA, buildSliceA, buildA, structPlaces, fillA, splice, bytesOf, aR_eq, aR_eq]⟩
        clear hl s4 s7 s9 s10 s11 s21 fr
        rintro fr ⟨hl, s4, s9, s10, s11⟩
        refine Ev.region ?_
        apply EvOps.keep (h' := h19) (d' := false) (fun fr => fr.length = 28 ∧ slotAt fr 4 = some (X18) ∧ slotAt fr 9 = some (.list (a0.map AV.str) false none none) ∧ slotAt fr 10 = some (AV.int .i64 ((List.length a0 : Int))) ∧ slotAt fr 11 = some (AV.int .i64 (IntKind.wrap .i64 (v4 + (1 : Int)))))
        · intro call; simp [hl, s4, s9, s10, s11, u_X18, v_X18, ofBytes_length, bytesOf_ofBytes, stripL_bytes, cleanL_bytes, headOk_bytes, strs, minsA, minA, sliceA, buildSliceA, buildA, structPlaces, fillA, splice, bytesOf, aR_eq, aR_eq]; exact rfl
        · exact ⟨by simp [hl], by simp [hl, s4, s9, s10, s11, u_X18, v_X18, ofBytes_length, bytesOf_ofBytes, stripL_bytes, cleanL_bytes, headOk_bytes, strs, minsA, minA, sliceA, buildSliceA, buildA, structPlaces, fillA, splice, bytesOf, aR_eq, aR_eq], by simp [hl, s4, s9, s10, s11, u_X18, v_X18, ofBytes_length, bytesOf_ofBytes, stripL_bytes, cleanL_bytes, headOk_bytes, strs, minsA, minA, sliceA, buildSliceA, buildA, structPlaces, fillA, splice, bytesOf, aR_eq, aR_eq], by simp [hl, s4, s9, s10, s11, u_X18, v_X18, ofBytes_length, bytesOf_ofBytes, stripL_bytes, cleanL_bytes, headOk_bytes, strs, minsA, minA, sliceA, buildSliceA, buildA, structPlaces, fillA, splice, bytesOf, aR_eq, aR_eq], by simp [hl, s4, s9, s10, s11, u_X18, v_X18, ofBytes_length, bytesOf_ofBytes, stripL_bytes, cleanL_bytes, headOk_bytes, strs, minsA, minA, sliceA, buildSliceA, buildA, structPlaces, fillA, splice, bytesOf, aR_eq, aR_eq]⟩
        clear hl s4 s9 s10 s11 fr
        rintro fr ⟨hl, s4, s9, s10, s11⟩
        have hs := Option.some.inj hg; subst hs; clear hg
        exact ⟨m, Nat.lt_succ_self m, _, h19, v2 ++ [r15.1], X18, IntKind.wrap .i64 (v4 + (1 : Int)), rfl, hl, by simp [hl, s4, s9, s10, s11, u_X18, v_X18, ofBytes_length, bytesOf_ofBytes, stripL_bytes, cleanL_bytes, headOk_bytes, strs, minsA, minA, sliceA, buildSliceA, buildA, structPlaces, fillA, splice, bytesOf, aR_eq, aR_eq], by simp [hl, s4, s9, s10, s11, u_X18, v_X18, ofBytes_length, bytesOf_ofBytes, stripL_bytes, cleanL_bytes, headOk_bytes, strs, minsA, minA, sliceA, buildSliceA, buildA, structPlaces, fillA, splice, bytesOf, aR_eq, aR_eq], by simp [hl, s4, s9, s10, s11, u_X18, v_X18, ofBytes_length, bytesOf_ofBytes, stripL_bytes, cleanL_bytes, headOk_bytes, strs, minsA, minA, sliceA, buildSliceA, buildA, structPlaces, fillA, splice, bytesOf, aR_eq, aR_eq], by simp [hl, s4, s9, s10, s11, u_X18, v_X18, ofBytes_length, bytesOf_ofBytes, stripL_bytes, cleanL_bytes, headOk_bytes, strs, minsA, minA, sliceA, buildSliceA, buildA, structPlaces, fillA, splice, bytesOf, aR_eq, aR_eq], g_X18, hstep⟩
    · rw [if_neg (by rw [h_13]; simp)] at hg
      refine Ev.exit ?_
      have hs := Option.some.inj hg; subst hs; clear hg; have ho := Option.some.inj hstep; subst ho
      exact .inl ⟨rfl, _, h1, v2, X3, rfl, hl, by simp [hl, s4, s9, s10, s11, s12, u_X3, v_X3, ofBytes_length, bytesOf_ofBytes, stripL_bytes, cleanL_bytes, headOk_bytes, strs, minsA, minA, sliceA, buildSliceA, buildA, structPlaces, fillA, splice, bytesOf, aR_eq, aR_eq], g_X3, rfl⟩
  · clear eo20 hl s4 s9 s10 s11 fr
    rintro x st (⟨rfl, fr, h6, v7, X8, rfl, hl, s4, g_X8, ho⟩ | ⟨rfl, fr, h9, v10, X11, v12, rfl, hl, s2, s3, l_X11, ho⟩)
    · rw [ho] at hg; (try dsimp only at hg); clear ho
      have u_X8 := Grow.one1 g_X8; unfold AV.one at u_X8
      have v_X8 := Grow.cells1 g_X8; unfold AV.cells at v_X8
      refine Ev.seq ?_
      refine Ev.region ?_
      apply EvOps.keep (h' := h6) (d' := false) (fun fr => fr.length = 28 ∧ slotAt fr 2 = some (X8) ∧ slotAt fr 3 = some (AV.int .i64 0))
      · intro call; simp [hl, s4, u_X8, v_X8, ofBytes_length, bytesOf_ofBytes, stripL_bytes, cleanL_bytes, headOk_bytes, strs, minsA, minA, sliceA, buildSliceA, buildA, structPlaces, fillA, splice, bytesOf, aR_eq, aR_eq]; exact rfl
      · exact ⟨by simp [hl], by simp [hl, s4, u_X8, v_X8, ofBytes_length, bytesOf_ofBytes, stripL_bytes, cleanL_bytes, headOk_bytes, strs, minsA, minA, sliceA, buildSliceA, buildA, structPlaces, fillA, splice, bytesOf, aR_eq, aR_eq], by simp [hl, s4, u_X8, v_X8, ofBytes_length, bytesOf_ofBytes, stripL_bytes, cleanL_bytes, headOk_bytes, strs, minsA, minA, sliceA, buildSliceA, buildA, structPlaces, fillA, splice, bytesOf, aR_eq, aR_eq]⟩
      clear hl s4 fr
      rintro fr ⟨hl, s2, s3⟩
      refine Ev.ret ?_
      have hs := Option.some.inj hg; subst hs
      exact ⟨AV.tuple [X8, AV.int .i64 0], by simp [Try.f37, hl, s2, s3, u_X8, v_X8, ofBytes_length, bytesOf_ofBytes, stripL_bytes, cleanL_bytes, headOk_bytes, strs, minsA, minA, sliceA, buildSliceA, buildA, structPlaces, fillA, splice, bytesOf, aR_eq, aR_eq] <;> exact rfl, by simp [Grow.strip g_X8, strs, aR_eq, aR_eq]⟩
    · rw [ho] at hg; (try dsimp only at hg); clear ho
      have u_X11 := LV.one l_X11; unfold AV.one at u_X11
      have v_X11 := LV.cells l_X11; unfold AV.cells at v_X11
      have hs := Option.some.inj hg; subst hs
      exact ⟨AV.tuple [X11, AV.int .i64 v12], by simp [Try.f37, hl, s2, s3, u_X11, v_X11, ofBytes_length, bytesOf_ofBytes, stripL_bytes, cleanL_bytes, headOk_bytes, strs, minsA, minA, sliceA, buildSliceA, buildA, structPlaces, fillA, splice, bytesOf, aR_eq, aR_eq] <;> exact rfl, by simp [LV.strip l_X11, strs, aR_eq, aR_eq]⟩

/-- pentimento/view.options -/
def F36_j45 (k : Nat) (v8 : List S) (v38 : S) (v39 : S) (v40 : Bool) (v41 : Bool) (v42 : S) (v43 : S) (v44 : Bool) (v45 : Bool) : Option (Sum ((List S) × S × S × Bool × Bool × S × S × Bool × Bool) ((List S) × S × S × Bool × Bool × S × S × Bool × Bool)) :=
  (chk (2 ≤ (List.length v8 : Int))).bind fun _ => some (Sum.inl (List.drop 2 v8, v38, v39, v40, v41, v42, v43, v44, v45))
def F36_l19_b (k : Nat) : (List S) × S × S × Bool × Bool × S × S × Bool × Bool → Option (Sum ((List S) × S × S × Bool × Bool × S × S × Bool × Bool) ((List S) × S × S × Bool × Bool × S × S × Bool × Bool)) := fun lv =>
  match lv with | (v8, v12, v13, v14, v15, v16, v17, v18, v19) => (if decide (((List.length v8 : Int) : Int) > 1) = true then (getAt v8 0).bind fun x48 => (F35 k x48 ([[77, 65, 84, 67, 72], [67, 79, 85, 78, 84]])).bind fun r49 => (if (((r49 : Int) == 0) && (!v18)) = true then (getAt v8 1).bind fun x52 => F36_j45 k v8 v12 v13 v14 v15 x52 v17 true v19 else (if (((r49 : Int) == 1) && (!v19)) = true then (getAt v8 1).bind fun x57 => F36_j45 k v8 v12 v13 v14 v15 v16 x57 v18 true else some (Sum.inr (v8, v12, v13, v14, v15, v16, v17, v18, v19)))) else some (Sum.inr (v8, v12, v13, v14, v15, v16, v17, v18, v19)))
def F36_l19 (k : Nat) : Nat → (List S) × S × S × Bool × Bool × S × S × Bool × Bool → Option ((List S) × S × S × Bool × Bool × S × S × Bool × Bool)
  | 0, _ => none
  | m + 1, lv => (F36_l19_b k lv).bind fun s => match s with | .inl lv => F36_l19 k m lv | .inr o => some o
def F36 (k : Nat) (a0 : List S) : Option (TView_asked × Int) :=
  (F36_l19 k k (a0, [], [], false, false, [42], [49, 48], false, false)).bind fun o60 => (match o60 with | (v23, v27, v28, v29, v30, v31, v32, v33, v34) => (if decide (((List.length v23 : Int) : Int) > 0) = true then some (((⟨v31, v32, v33, v34⟩ : TView_asked), 42)) else some (((⟨v31, v32, v33, v34⟩ : TView_asked), 0))))
set_option maxHeartbeats 8000000 in
theorem F36_ok {k : Nat} {a0 : List S} {r : TView_asked × Int} (hg : F36 k a0 = some r) : Ret cfg 36 [AV.L (a0.map AV.str)] (AV.tuple [TView_asked.av r.1, AV.int .i64 r.2]) := by
  unfold F36 at hg
  refine Ret.of_body rfl rfl Try.func36 rfl (by simp [strs, stripL_bytes, cleanL_bytes, headOk_bytes]) (by simp [strs, stripL_bytes, cleanL_bytes, headOk_bytes]) ?_
  obtain ⟨fr, hfr⟩ : ∃ fr, fr = [AV.L (a0.map AV.str)] ++ List.replicate (Try.f36.ntmps - [AV.L (a0.map AV.str)].length) AV.undef := ⟨_, rfl⟩
  rw [← hfr]
  have hl : fr.length = 48 := by rw [hfr]; rfl
  have s0 : slotAt fr 0 = some (.list (a0.map AV.str) false none none) := by rw [hfr]; first | rfl | simp [aR_eq, aR_eq]
  clear hfr
  refine Ev.seq ?_
  refine Ev.region ?_
  refine EvOps.allocR (cs := [AV.str [], AV.str [], AV.bool false, AV.bool false]) rfl (by simp [hl, s0, ofBytes_length, bytesOf_ofBytes, stripL_bytes, cleanL_bytes, headOk_bytes, strs, minsA, minA, sliceA, buildSliceA, buildA, structPlaces, fillA, splice, bytesOf, TView_asked.av, aR_eq, aR_eq]) Ty.z100 (by simp) (by simp) ?_
  intro h2 b1 ex
  have o_b1 := ex.get
  clear ex
  apply EvOps.keep (h' := h2) (d' := false) (fun fr => fr.length = 48 ∧ slotAt fr 0 = some (.list (a0.map AV.str) false none none) ∧ slotAt fr 2 = some (AV.ptr b1 0))
  · intro call; simp [hl, s0, o_b1, ofBytes_length, bytesOf_ofBytes, stripL_bytes, cleanL_bytes, headOk_bytes, strs, minsA, minA, sliceA, buildSliceA, buildA, structPlaces, fillA, splice, bytesOf, TView_asked.av, aR_eq, aR_eq]; exact rfl
  · exact ⟨by simp [hl], by simp [hl, s0, o_b1, ofBytes_length, bytesOf_ofBytes, stripL_bytes, cleanL_bytes, headOk_bytes, strs, minsA, minA, sliceA, buildSliceA, buildA, structPlaces, fillA, splice, bytesOf, TView_asked.av, aR_eq, aR_eq], by simp [hl, s0, o_b1, ofBytes_length, bytesOf_ofBytes, stripL_bytes, cleanL_bytes, headOk_bytes, strs, minsA, minA, sliceA, buildSliceA, buildA, structPlaces, fillA, splice, bytesOf, TView_asked.av, aR_eq, aR_eq]⟩
  clear hl s0 fr
  rintro fr ⟨hl, s0, s2⟩
  refine Ev.scope ?_
  refine Ev.seq ?_
  refine Ev.region ?_
  refine EvOps.take 1 ?_
  apply EvOps.run
  · intro call; simp [hl, s0, s2, o_b1, ofBytes_length, bytesOf_ofBytes, stripL_bytes, cleanL_bytes, headOk_bytes, strs, minsA, minA, sliceA, buildSliceA, buildA, structPlaces, fillA, splice, bytesOf, TView_asked.av, aR_eq, aR_eq]; exact rfl
  refine EvOps.allocR (cs := [AV.str [], AV.str [], AV.bool false, AV.bool false]) rfl (by simp [hl, s0, s2, o_b1, ofBytes_length, bytesOf_ofBytes, stripL_bytes, cleanL_bytes, headOk_bytes, strs, minsA, minA, sliceA, buildSliceA, buildA, structPlaces, fillA, splice, bytesOf, TView_asked.av, aR_eq, aR_eq]) Ty.z100 (by simp) (by simp) ?_
  intro h4 b3 ex
  have o_b3 := ex.get
  have n_b1_b3 := ex.ne _ _ o_b1
  have o_b1 := ex.old _ _ o_b1
  clear ex
  refine EvOps.storeR (b := b3) (off := 0) (vs := [AV.str [42], AV.str [49, 48], AV.bool false, AV.bool false]) (cs' := [AV.str [42], AV.str [49, 48], AV.bool false, AV.bool false]) rfl (by simp [hl, s0, s2, o_b1, o_b3, ofBytes_length, bytesOf_ofBytes, stripL_bytes, cleanL_bytes, headOk_bytes, strs, minsA, minA, sliceA, buildSliceA, buildA, structPlaces, fillA, splice, bytesOf, TView_asked.av, aR_eq, aR_eq]) (by simp [hl, s0, s2, o_b1, o_b3, ofBytes_length, bytesOf_ofBytes, stripL_bytes, cleanL_bytes, headOk_bytes, strs, minsA, minA, sliceA, buildSliceA, buildA, structPlaces, fillA, splice, bytesOf, TView_asked.av, aR_eq, aR_eq] <;> exact rfl) (by simp [hl, s0, s2, o_b1, o_b3, ofBytes_length, bytesOf_ofBytes, stripL_bytes, cleanL_bytes, headOk_bytes, strs, minsA, minA, sliceA, buildSliceA, buildA, structPlaces, fillA, splice, bytesOf, TView_asked.av, aR_eq, aR_eq] <;> exact rfl) o_b3 (by simp [hl, s0, s2, o_b1, o_b3, ofBytes_length, bytesOf_ofBytes, stripL_bytes, cleanL_bytes, headOk_bytes, strs, minsA, minA, sliceA, buildSliceA, buildA, structPlaces, fillA, splice, bytesOf, TView_asked.av, aR_eq, aR_eq]) (by simp) (by simp) (by simp [AV.one]) (by simp [splice]) ?_
  intro h5 up
  have o_b1 := up.cells o_b1 n_b1_b3
  have o_b3 := up.get
  clear up
  try dsimp only [St.put]
  refine EvOps.gen (fun fr => fr.length = 48 ∧ slotAt fr 0 = some (.list (a0.map AV.str) false none none) ∧ slotAt fr 2 = some (AV.ptr b1 0) ∧ slotAt fr 4 = some (AV.ptr b3 0)) ⟨by simp [hl], by simp [hl, s0, s2, o_b1, o_b3, ofBytes_length, bytesOf_ofBytes, stripL_bytes, cleanL_bytes, headOk_bytes, strs, minsA, minA, sliceA, buildSliceA, buildA, structPlaces, fillA, splice, bytesOf, TView_asked.av, aR_eq, aR_eq], by simp [hl, s0, s2, o_b1, o_b3, ofBytes_length, bytesOf_ofBytes, stripL_bytes, cleanL_bytes, headOk_bytes, strs, minsA, minA, sliceA, buildSliceA, buildA, structPlaces, fillA, splice, bytesOf, TView_asked.av, aR_eq, aR_eq], by simp [hl, s0, s2, o_b1, o_b3, ofBytes_length, bytesOf_ofBytes, stripL_bytes, cleanL_bytes, headOk_bytes, strs, minsA, minA, sliceA, buildSliceA, buildA, structPlaces, fillA, splice, bytesOf, TView_asked.av, aR_eq, aR_eq]⟩ ?_
  clear hl s0 s2 fr
  rintro fr ⟨hl, s0, s2, s4⟩
  refine EvOps.done ?_
  refine Ev.seq ?_
  refine Ev.label ?_
  refine Ev.seq ?_
  refine Ev.block ?_
  obtain ⟨o60, eo60, hg⟩ := bind_some hg
  refine Ev.loopJ (fun x st => (x = .exit 0 ∧ ∃ (fr : List AV) (h21 : Heap) (d22 : Bool) (v23 : List S) (nn24 : Bool) (c25 : Option Nat) (τ26 : Option Nat) (v27 : S) (v28 : S) (v29 : Bool) (v30 : Bool) (v31 : S) (v32 : S) (v33 : Bool) (v34 : Bool), st = ⟨fr, h21, d22⟩ ∧ fr.length = 48 ∧ slotAt fr 0 = some (.list (v23.map AV.str) nn24 c25 τ26) ∧ slotAt fr 2 = some (AV.ptr b1 0) ∧ slotAt fr 4 = some (AV.ptr b3 0) ∧ h21[b1]? = some (.cells [AV.str v27, AV.str v28, AV.bool v29, AV.bool v30]) ∧ h21[b3]? = some (.cells [AV.str v31, AV.str v32, AV.bool v33, AV.bool v34]) ∧ b1 ≠ b3 ∧ o60 = (v23, v27, v28, v29, v30, v31, v32, v33, v34))) (fun m st => ∃ (fr : List AV) (h6 : Heap) (d7 : Bool) (v8 : List S) (nn9 : Bool) (c10 : Option Nat) (τ11 : Option Nat) (v12 : S) (v13 : S) (v14 : Bool) (v15 : Bool) (v16 : S) (v17 : S) (v18 : Bool) (v19 : Bool), st = ⟨fr, h6, d7⟩ ∧ fr.length = 48 ∧ slotAt fr 0 = some (.list (v8.map AV.str) nn9 c10 τ11) ∧ slotAt fr 2 = some (AV.ptr b1 0) ∧ slotAt fr 4 = some (AV.ptr b3 0) ∧ h6[b1]? = some (.cells [AV.str v12, AV.str v13, AV.bool v14, AV.bool v15]) ∧ h6[b3]? = some (.cells [AV.str v16, AV.str v17, AV.bool v18, AV.bool v19]) ∧ b1 ≠ b3 ∧ F36_l19 k m (v8, v12, v13, v14, v15, v16, v17, v18, v19) = some o60) k _ ?_ ?_ ?_
  · exact ⟨_, h5, false, a0, false, none, none, [], [], false, false, [42], [49, 48], false, false, rfl, hl, by simp [hl, s0, s2, s4, o_b1, o_b3, ofBytes_length, bytesOf_ofBytes, stripL_bytes, cleanL_bytes, headOk_bytes, strs, minsA, minA, sliceA, buildSliceA, buildA, structPlaces, fillA, splice, bytesOf, TView_asked.av, aR_eq, aR_eq], by simp [hl, s0, s2, s4, o_b1, o_b3, ofBytes_length, bytesOf_ofBytes, stripL_bytes, cleanL_bytes, headOk_bytes, strs, minsA, minA, sliceA, buildSliceA, buildA, structPlaces, fillA, splice, bytesOf, TView_asked.av, aR_eq, aR_eq], by simp [hl, s0, s2, s4, o_b1, o_b3, ofBytes_length, bytesOf_ofBytes, stripL_bytes, cleanL_bytes, headOk_bytes, strs, minsA, minA, sliceA, buildSliceA, buildA, structPlaces, fillA, splice, bytesOf, TView_asked.av, aR_eq, aR_eq], o_b1, o_b3, n_b1_b3, eo60⟩
  · clear hg eo60 hl s0 s2 s4 fr
    rintro m st ⟨fr, h6, d7, v8, nn9, c10, τ11, v12, v13, v14, v15, v16, v17, v18, v19, rfl, hl, s0, s2, s4, o_b1, o_b3, n_b1_b3, hg⟩
    cases m with
    | zero => simp [F36_l19] at hg
    | succ m =>
    rw [F36_l19] at hg
    obtain ⟨s, hb, hstep⟩ := bind_some hg
    clear hg
    have hg := hb; clear hb
    unfold F36_l19_b at hg
    try dsimp only at hg
    refine Ev.seq ?_
    refine Ev.seq ?_
    refine Ev.region ?_
    apply EvOps.keep (h' := h6) (d' := d7) (fun fr => fr.length = 48 ∧ slotAt fr 0 = some (.list (v8.map AV.str) nn9 c10 τ11) ∧ slotAt fr 2 = some (AV.ptr b1 0) ∧ slotAt fr 4 = some (AV.ptr b3 0) ∧ slotAt fr 9 = some (AV.bool (decide (((List.length v8 : Int) : Int) > 1))))
    · intro call; simp [hl, s0, s2, s4, o_b1, o_b3, ofBytes_length, bytesOf_ofBytes, stripL_bytes, cleanL_bytes, headOk_bytes, strs, minsA, minA, sliceA, buildSliceA, buildA, structPlaces, fillA, splice, bytesOf, TView_asked.av, aR_eq, aR_eq]; exact rfl
    · exact ⟨by simp [hl], by simp [hl, s0, s2, s4, o_b1, o_b3, ofBytes_length, bytesOf_ofBytes, stripL_bytes, cleanL_bytes, headOk_bytes, strs, minsA, minA, sliceA, buildSliceA, buildA, structPlaces, fillA, splice, bytesOf, TView_asked.av, aR_eq, aR_eq], by simp [hl, s0, s2, s4, o_b1, o_b3, ofBytes_length, bytesOf_ofBytes, stripL_bytes, cleanL_bytes, headOk_bytes, strs, minsA, minA, sliceA, buildSliceA, buildA, structPlaces, fillA, splice, bytesOf, TView_asked.av, aR_eq, aR_eq], by simp [hl, s0, s2, s4, o_b1, o_b3, ofBytes_length, bytesOf_ofBytes, stripL_bytes, cleanL_bytes, headOk_bytes, strs, minsA, minA, sliceA, buildSliceA, buildA, structPlaces, fillA, splice, bytesOf, TView_asked.av, aR_eq, aR_eq], by simp [hl, s0, s2, s4, o_b1, o_b3, ofBytes_length, bytesOf_ofBytes, stripL_bytes, cleanL_bytes, headOk_bytes, strs, minsA, minA, sliceA, buildSliceA, buildA, structPlaces, fillA, splice, bytesOf, TView_asked.av, aR_eq, aR_eq]⟩
    clear hl s0 s2 s4 fr
    rintro fr ⟨hl, s0, s2, s4, s9⟩
    refine Ev.cond (decide (((List.length v8 : Int) : Int) > 1)) (by simp [hl, s0, s2, s4, s9, o_b1, o_b3, ofBytes_length, bytesOf_ofBytes, stripL_bytes, cleanL_bytes, headOk_bytes, strs, minsA, minA, sliceA, buildSliceA, buildA, structPlaces, fillA, splice, bytesOf, TView_asked.av, aR_eq, aR_eq]) (fun h_35 => ?_) (fun h_35 => ?_)
    · rw [if_pos h_35] at hg
      refine Ev.skip ?_
      refine Ev.mid (fun st => ∃ (fr : List AV) (h36 : Heap) (d37 : Bool) (v38 : S) (v39 : S) (v40 : Bool) (v41 : Bool) (v42 : S) (v43 : S) (v44 : Bool) (v45 : Bool), st = ⟨fr, h36, d37⟩ ∧ fr.length = 48 ∧ slotAt fr 0 = some (.list (v8.map AV.str) nn9 c10 τ11) ∧ slotAt fr 2 = some (AV.ptr b1 0) ∧ slotAt fr 4 = some (AV.ptr b3 0) ∧ h36[b1]? = some (.cells [AV.str v38, AV.str v39, AV.bool v40, AV.bool v41]) ∧ h36[b3]? = some (.cells [AV.str v42, AV.str v43, AV.bool v44, AV.bool v45]) ∧ b1 ≠ b3 ∧ F36_j45 k v8 v38 v39 v40 v41 v42 v43 v44 v45 = some s) ?_ ?_
      · refine Ev.block ?_
        refine Ev.seq ?_
        refine Ev.seq ?_
        refine Ev.region ?_
        obtain ⟨x48, ex48, hg⟩ := bind_some hg
        obtain ⟨ex48a, ex48b, ex48c, ex48d⟩ := getAt_some ex48
        have yex48b := ex48b
        try simp at yex48b
        have yex48d := ex48d
        try simp at yex48d
        have kx48 : v8[0]? = some x48 := ex48c
        have lx48 : ∀ h : 0 < List.length v8, v8[0]'h = x48 := ex48d
        obtain ⟨r49, er49, hg⟩ := bind_some hg
        refine EvOps.take 4 ?_
        apply EvOps.run
        · intro call; simp [hl, s0, s2, s4, s9, o_b1, o_b3, ex48a, ex48b, ex48c, ex48d, yex48b, yex48d, kx48, lx48, ofBytes_length, bytesOf_ofBytes, stripL_bytes, cleanL_bytes, headOk_bytes, strs, minsA, minA, sliceA, buildSliceA, buildA, structPlaces, fillA, splice, bytesOf, TView_asked.av, aR_eq, aR_eq]; exact rfl
        refine EvOps.call rfl (by simp [hl, s0, s2, s4, s9, o_b1, o_b3, ex48a, ex48b, ex48c, ex48d, yex48b, yex48d, kx48, lx48, ofBytes_length, bytesOf_ofBytes, stripL_bytes, cleanL_bytes, headOk_bytes, strs, minsA, minA, sliceA, buildSliceA, buildA, structPlaces, fillA, splice, bytesOf, TView_asked.av, aR_eq, aR_eq]) (by simp [hl, s0, s2, s4, s9, o_b1, o_b3, ex48a, ex48b, ex48c, ex48d, yex48b, yex48d, kx48, lx48, ofBytes_length, bytesOf_ofBytes, stripL_bytes, cleanL_bytes, headOk_bytes, strs, minsA, minA, sliceA, buildSliceA, buildA, structPlaces, fillA, splice, bytesOf, TView_asked.av, aR_eq, aR_eq] <;> exact rfl) (by simp [hl, s0, s2, s4, s9, o_b1, o_b3, ex48a, ex48b, ex48c, ex48d, yex48b, yex48d, kx48, lx48, ofBytes_length, bytesOf_ofBytes, stripL_bytes, cleanL_bytes, headOk_bytes, strs, minsA, minA, sliceA, buildSliceA, buildA, structPlaces, fillA, splice, bytesOf, TView_asked.av, aR_eq, aR_eq] <;> exact rfl) (F35_ok er49) ?_
        apply EvOps.keep (h' := h6) (d' := d7) (fun fr => fr.length = 48 ∧ slotAt fr 0 = some (.list (v8.map AV.str) nn9 c10 τ11) ∧ slotAt fr 2 = some (AV.ptr b1 0) ∧ slotAt fr 4 = some (AV.ptr b3 0) ∧ slotAt fr 5 = some (AV.int .i64 r49))
        · intro call; simp [hl, s0, s2, s4, s9, o_b1, o_b3, ex48a, ex48b, ex48c, ex48d, yex48b, yex48d, kx48, lx48, ofBytes_length, bytesOf_ofBytes, stripL_bytes, cleanL_bytes, headOk_bytes, strs, minsA, minA, sliceA, buildSliceA, buildA, structPlaces, fillA, splice, bytesOf, TView_asked.av, aR_eq, aR_eq]; exact rfl
        · exact ⟨by simp [hl], by simp [hl, s0, s2, s4, s9, o_b1, o_b3, ex48a, ex48b, ex48c, ex48d, yex48b, yex48d, kx48, lx48, ofBytes_length, bytesOf_ofBytes, stripL_bytes, cleanL_bytes, headOk_bytes, strs, minsA, minA, sliceA, buildSliceA, buildA, structPlaces, fillA, splice, bytesOf, TView_asked.av, aR_eq, aR_eq], by simp [hl, s0, s2, s4, s9, o_b1, o_b3, ex48a, ex48b, ex48c, ex48d, yex48b, yex48d, kx48, lx48, ofBytes_length, bytesOf_ofBytes, stripL_bytes, cleanL_bytes, headOk_bytes, strs, minsA, minA, sliceA, buildSliceA, buildA, structPlaces, fillA, splice, bytesOf, TView_asked.av, aR_eq, aR_eq], by simp [hl, s0, s2, s4, s9, o_b1, o_b3, ex48a, ex48b, ex48c, ex48d, yex48b, yex48d, kx48, lx48, ofBytes_length, bytesOf_ofBytes, stripL_bytes, cleanL_bytes, headOk_bytes, strs, minsA, minA, sliceA, buildSliceA, buildA, structPlaces, fillA, splice, bytesOf, TView_asked.av, aR_eq, aR_eq], by simp [hl, s0, s2, s4, s9, o_b1, o_b3, ex48a, ex48b, ex48c, ex48d, yex48b, yex48d, kx48, lx48, ofBytes_length, bytesOf_ofBytes, stripL_bytes, cleanL_bytes, headOk_bytes, strs, minsA, minA, sliceA, buildSliceA, buildA, structPlaces, fillA, splice, bytesOf, TView_asked.av, aR_eq, aR_eq]⟩
        clear hl s0 s2 s4 s9 fr
        rintro fr ⟨hl, s0, s2, s4, s5⟩
        refine Ev.block ?_
        refine Ev.seq ?_
        refine Ev.region ?_
        refine EvOps.mono (Q := fun st => ∃ fr, st = ⟨fr, h6, d7⟩ ∧ fr.length = 48 ∧ slotAt fr 0 = some (.list (v8.map AV.str) nn9 c10 τ11) ∧ slotAt fr 2 = some (AV.ptr b1 0) ∧ slotAt fr 4 = some (AV.ptr b3 0) ∧ slotAt fr 5 = some (AV.int .i64 r49) ∧ slotAt fr 17 = some (AV.bool ((((r49 : Int) == 0) && (!v18))))) ?_ ?_
        · refine EvOps.mid 7 (fun st => ∃ fr, st = ⟨fr, h6, d7⟩ ∧ fr.length = 48 ∧ slotAt fr 0 = some (.list (v8.map AV.str) nn9 c10 τ11) ∧ slotAt fr 2 = some (AV.ptr b1 0) ∧ slotAt fr 4 = some (AV.ptr b3 0) ∧ slotAt fr 5 = some (AV.int .i64 r49) ∧ slotAt fr 24 = some (AV.bool ((((r49 : Int) == 0) && (!v18))))) ?_ ?_
          · refine EvOps.take 3 ?_
            apply EvOps.run
            · intro call; simp [hl, s0, s2, s4, s5, o_b1, o_b3, ofBytes_length, bytesOf_ofBytes, stripL_bytes, cleanL_bytes, headOk_bytes, strs, minsA, minA, sliceA, buildSliceA, buildA, structPlaces, fillA, splice, bytesOf, TView_asked.av, aR_eq, aR_eq]; exact rfl
            refine EvOps.gen (fun fr => fr.length = 48 ∧ slotAt fr 0 = some (.list (v8.map AV.str) nn9 c10 τ11) ∧ slotAt fr 2 = some (AV.ptr b1 0) ∧ slotAt fr 4 = some (AV.ptr b3 0) ∧ slotAt fr 5 = some (AV.int .i64 r49) ∧ slotAt fr 20 = some (AV.bool (((r49 : Int) == 0)))) ⟨by simp [hl], by simp [hl, s0, s2, s4, s5, o_b1, o_b3, ofBytes_length, bytesOf_ofBytes, stripL_bytes, cleanL_bytes, headOk_bytes, strs, minsA, minA, sliceA, buildSliceA, buildA, structPlaces, fillA, splice, bytesOf, TView_asked.av, aR_eq, aR_eq], by simp [hl, s0, s2, s4, s5, o_b1, o_b3, ofBytes_length, bytesOf_ofBytes, stripL_bytes, cleanL_bytes, headOk_bytes, strs, minsA, minA, sliceA, buildSliceA, buildA, structPlaces, fillA, splice, bytesOf, TView_asked.av, aR_eq, aR_eq], by simp [hl, s0, s2, s4, s5, o_b1, o_b3, ofBytes_length, bytesOf_ofBytes, stripL_bytes, cleanL_bytes, headOk_bytes, strs, minsA, minA, sliceA, buildSliceA, buildA, structPlaces, fillA, splice, bytesOf, TView_asked.av, aR_eq, aR_eq], by simp [hl, s0, s2, s4, s5, o_b1, o_b3, ofBytes_length, bytesOf_ofBytes, stripL_bytes, cleanL_bytes, headOk_bytes, strs, minsA, minA, sliceA, buildSliceA, buildA, structPlaces, fillA, splice, bytesOf, TView_asked.av, aR_eq, aR_eq], by simp [hl, s0, s2, s4, s5, o_b1, o_b3, ofBytes_length, bytesOf_ofBytes, stripL_bytes, cleanL_bytes, headOk_bytes, strs, minsA, minA, sliceA, buildSliceA, buildA, structPlaces, fillA, splice, bytesOf, TView_asked.av, aR_eq, aR_eq]⟩ ?_
            clear hl s0 s2 s4 s5 fr
            rintro fr ⟨hl, s0, s2, s4, s5, s20⟩
            obtain ⟨w50, hw50⟩ : ∃ b : Bool, b = (((r49 : Int) == 0)) := ⟨_, rfl⟩
            rw [← hw50] at s20
            cases w50 with
            | true =>
              apply EvOps.run
              · intro call; simp [hl, s0, s2, s4, s5, s20, o_b1, o_b3, ofBytes_length, bytesOf_ofBytes, stripL_bytes, cleanL_bytes, headOk_bytes, strs, minsA, minA, sliceA, buildSliceA, buildA, structPlaces, fillA, splice, bytesOf, TView_asked.av, aR_eq, aR_eq]; exact rfl
              exact ⟨_, rfl, by simp [hl], by simp [hl, s0, s2, s4, s5, s20, o_b1, o_b3, ofBytes_length, bytesOf_ofBytes, stripL_bytes, cleanL_bytes, headOk_bytes, strs, minsA, minA, sliceA, buildSliceA, buildA, structPlaces, fillA, splice, bytesOf, TView_asked.av, aR_eq, aR_eq], by simp [hl, s0, s2, s4, s5, s20, o_b1, o_b3, ofBytes_length, bytesOf_ofBytes, stripL_bytes, cleanL_bytes, headOk_bytes, strs, minsA, minA, sliceA, buildSliceA, buildA, structPlaces, fillA, splice, bytesOf, TView_asked.av, aR_eq, aR_eq], by simp [hl, s0, s2, s4, s5, s20, o_b1, o_b3, ofBytes_length, bytesOf_ofBytes, stripL_bytes, cleanL_bytes, headOk_bytes, strs, minsA, minA, sliceA, buildSliceA, buildA, structPlaces, fillA, splice, bytesOf, TView_asked.av, aR_eq, aR_eq], by simp [hl, s0, s2, s4, s5, s20, o_b1, o_b3, ofBytes_length, bytesOf_ofBytes, stripL_bytes, cleanL_bytes, headOk_bytes, strs, minsA, minA, sliceA, buildSliceA, buildA, structPlaces, fillA, splice, bytesOf, TView_asked.av, aR_eq, aR_eq], by first | (simp [hl, s0, s2, s4, s5, s20, o_b1, o_b3, ofBytes_length, bytesOf_ofBytes, stripL_bytes, cleanL_bytes, headOk_bytes, strs, minsA, minA, sliceA, buildSliceA, buildA, structPlaces, fillA, splice, bytesOf, TView_asked.av, aR_eq, aR_eq]; done) | ((try simp only [← hw50]); (first | done | simp [hl, s0, s2, s4, s5, s20, o_b1, o_b3, ofBytes_length, bytesOf_ofBytes, stripL_bytes, cleanL_bytes, headOk_bytes, strs, minsA, minA, sliceA, buildSliceA, buildA, structPlaces, fillA, splice, bytesOf, TView_asked.av, aR_eq, aR_eq]))⟩
            | false =>
              apply EvOps.run
              · intro call; simp [hl, s0, s2, s4, s5, s20, o_b1, o_b3, ofBytes_length, bytesOf_ofBytes, stripL_bytes, cleanL_bytes, headOk_bytes, strs, minsA, minA, sliceA, buildSliceA, buildA, structPlaces, fillA, splice, bytesOf, TView_asked.av, aR_eq, aR_eq]; exact rfl
              exact ⟨_, rfl, by simp [hl], by simp [hl, s0, s2, s4, s5, s20, o_b1, o_b3, ofBytes_length, bytesOf_ofBytes, stripL_bytes, cleanL_bytes, headOk_bytes, strs, minsA, minA, sliceA, buildSliceA, buildA, structPlaces, fillA, splice, bytesOf, TView_asked.av, aR_eq, aR_eq], by simp [hl, s0, s2, s4, s5, s20, o_b1, o_b3, ofBytes_length, bytesOf_ofBytes, stripL_bytes, cleanL_bytes, headOk_bytes, strs, minsA, minA, sliceA, buildSliceA, buildA, structPlaces, fillA, splice, bytesOf, TView_asked.av, aR_eq, aR_eq], by simp [hl, s0, s2, s4, s5, s20, o_b1, o_b3, ofBytes_length, bytesOf_ofBytes, stripL_bytes, cleanL_bytes, headOk_bytes, strs, minsA, minA, sliceA, buildSliceA, buildA, structPlaces, fillA, splice, bytesOf, TView_asked.av, aR_eq, aR_eq], by simp [hl, s0, s2, s4, s5, s20, o_b1, o_b3, ofBytes_length, bytesOf_ofBytes, stripL_bytes, cleanL_bytes, headOk_bytes, strs, minsA, minA, sliceA, buildSliceA, buildA, structPlaces, fillA, splice, bytesOf, TView_asked.av, aR_eq, aR_eq], by first | (simp [hl, s0, s2, s4, s5, s20, o_b1, o_b3, ofBytes_length, bytesOf_ofBytes, stripL_bytes, cleanL_bytes, headOk_bytes, strs, minsA, minA, sliceA, buildSliceA, buildA, structPlaces, fillA, splice, bytesOf, TView_asked.av, aR_eq, aR_eq]; done) | ((try simp only [← hw50]); (first | done | simp [hl, s0, s2, s4, s5, s20, o_b1, o_b3, ofBytes_length, bytesOf_ofBytes, stripL_bytes, cleanL_bytes, headOk_bytes, strs, minsA, minA, sliceA, buildSliceA, buildA, structPlaces, fillA, splice, bytesOf, TView_asked.av, aR_eq, aR_eq]))⟩
          · clear hl s0 s2 s4 s5 fr
            rintro st ⟨fr, rfl, hl, s0, s2, s4, s5, s24⟩
            apply EvOps.run
            · intro call; simp [hl, s0, s2, s4, s5, s24, o_b1, o_b3, ofBytes_length, bytesOf_ofBytes, stripL_bytes, cleanL_bytes, headOk_bytes, strs, minsA, minA, sliceA, buildSliceA, buildA, structPlaces, fillA, splice, bytesOf, TView_asked.av, aR_eq, aR_eq]; exact rfl
            exact ⟨_, rfl, by simp [hl], by simp [hl, s0, s2, s4, s5, s24, o_b1, o_b3, ofBytes_length, bytesOf_ofBytes, stripL_bytes, cleanL_bytes, headOk_bytes, strs, minsA, minA, sliceA, buildSliceA, buildA, structPlaces, fillA, splice, bytesOf, TView_asked.av, aR_eq, aR_eq], by simp [hl, s0, s2, s4, s5, s24, o_b1, o_b3, ofBytes_length, bytesOf_ofBytes, stripL_bytes, cleanL_bytes, headOk_bytes, strs, minsA, minA, sliceA, buildSliceA, buildA, structPlaces, fillA, splice, bytesOf, TView_asked.av, aR_eq, aR_eq], by simp [hl, s0, s2, s4, s5, s24, o_b1, o_b3, ofBytes_length, bytesOf_ofBytes, stripL_bytes, cleanL_bytes, headOk_bytes, strs, minsA, minA, sliceA, buildSliceA, buildA, structPlaces, fillA, splice, bytesOf, TView_asked.av, aR_eq, aR_eq], by simp [hl, s0, s2, s4, s5, s24, o_b1, o_b3, ofBytes_length, bytesOf_ofBytes, stripL_bytes, cleanL_bytes, headOk_bytes, strs, minsA, minA, sliceA, buildSliceA, buildA, structPlaces, fillA, splice, bytesOf, TView_asked.av, aR_eq, aR_eq], by simp [hl, s0, s2, s4, s5, s24, o_b1, o_b3, ofBytes_length, bytesOf_ofBytes, stripL_bytes, cleanL_bytes, headOk_bytes, strs, minsA, minA, sliceA, buildSliceA, buildA, structPlaces, fillA, splice, bytesOf, TView_asked.av, aR_eq, aR_eq]⟩
        clear hl s0 s2 s4 s5 fr
        rintro st ⟨fr, rfl, hl, s0, s2, s4, s5, s17⟩
        refine Ev.cond ((((r49 : Int) == 0) && (!v18))) (by simp [hl, s0, s2, s4, s5, s17, o_b1, o_b3, ofBytes_length, bytesOf_ofBytes, stripL_bytes, cleanL_bytes, headOk_bytes, strs, minsA, minA, sliceA, buildSliceA, buildA, structPlaces, fillA, splice, bytesOf, TView_asked.av, aR_eq, aR_eq]) (fun h_51 => ?_) (fun h_51 => ?_)
        · rw [if_pos h_51] at hg
          refine Ev.seq ?_
          refine Ev.region ?_
          obtain ⟨x52, ex52, hg⟩ := bind_some hg
          obtain ⟨ex52a, ex52b, ex52c, ex52d⟩ := getAt_some ex52
          have yex52b := ex52b
          try simp at yex52b
          have yex52d := ex52d
          try simp at yex52d
          have kx52 : v8[1]? = some x52 := ex52c
          have lx52 : ∀ h : 1 < List.length v8, v8[1]'h = x52 := ex52d
          refine EvOps.take 4 ?_
          apply EvOps.run
          · intro call; simp [hl, s0, s2, s4, s5, s17, o_b1, o_b3, ex52a, ex52b, ex52c, ex52d, yex52b, yex52d, kx52, lx52, ofBytes_length, bytesOf_ofBytes, stripL_bytes, cleanL_bytes, headOk_bytes, strs, minsA, minA, sliceA, buildSliceA, buildA, structPlaces, fillA, splice, bytesOf, TView_asked.av, aR_eq, aR_eq]; exact rfl
          refine EvOps.storeR (b := b3) (off := 0) (vs := [AV.str x52]) (cs' := [AV.str x52, AV.str v17, AV.bool v18, AV.bool v19]) rfl (by simp [hl, s0, s2, s4, s5, s17, o_b1, o_b3, ex52a, ex52b, ex52c, ex52d, yex52b, yex52d, kx52, lx52, ofBytes_length, bytesOf_ofBytes, stripL_bytes, cleanL_bytes, headOk_bytes, strs, minsA, minA, sliceA, buildSliceA, buildA, structPlaces, fillA, splice, bytesOf, TView_asked.av, aR_eq, aR_eq]) (by simp [hl, s0, s2, s4, s5, s17, o_b1, o_b3, ex52a, ex52b, ex52c, ex52d, yex52b, yex52d, kx52, lx52, ofBytes_length, bytesOf_ofBytes, stripL_bytes, cleanL_bytes, headOk_bytes, strs, minsA, minA, sliceA, buildSliceA, buildA, structPlaces, fillA, splice, bytesOf, TView_asked.av, aR_eq, aR_eq] <;> exact rfl) (by simp [hl, s0, s2, s4, s5, s17, o_b1, o_b3, ex52a, ex52b, ex52c, ex52d, yex52b, yex52d, kx52, lx52, ofBytes_length, bytesOf_ofBytes, stripL_bytes, cleanL_bytes, headOk_bytes, strs, minsA, minA, sliceA, buildSliceA, buildA, structPlaces, fillA, splice, bytesOf, TView_asked.av, aR_eq, aR_eq] <;> exact rfl) o_b3 (by simp [hl, s0, s2, s4, s5, s17, o_b1, o_b3, ex52a, ex52b, ex52c, ex52d, yex52b, yex52d, kx52, lx52, ofBytes_length, bytesOf_ofBytes, stripL_bytes, cleanL_bytes, headOk_bytes, strs, minsA, minA, sliceA, buildSliceA, buildA, structPlaces, fillA, splice, bytesOf, TView_asked.av, aR_eq, aR_eq]) (by simp) (by simp) (by simp [AV.one]) (by simp [splice]) ?_
          intro h53 up
          have o_b1 := up.cells o_b1 n_b1_b3
          have o_b3 := up.get
          clear up
          refine EvOps.take 1 ?_
          apply EvOps.run
          · intro call; simp [hl, s0, s2, s4, s5, s17, o_b1, o_b3, ex52a, ex52b, ex52c, ex52d, yex52b, yex52d, kx52, lx52, ofBytes_length, bytesOf_ofBytes, stripL_bytes, cleanL_bytes, headOk_bytes, strs, minsA, minA, sliceA, buildSliceA, buildA, structPlaces, fillA, splice, bytesOf, TView_asked.av, aR_eq, aR_eq]; exact rfl
          refine EvOps.storeR (b := b3) (off := 2) (vs := [AV.bool true]) (cs' := [AV.str x52, AV.str v17, AV.bool true, AV.bool v19]) rfl (by simp [hl, s0, s2, s4, s5, s17, o_b1, o_b3, ex52a, ex52b, ex52c, ex52d, yex52b, yex52d, kx52, lx52, ofBytes_length, bytesOf_ofBytes, stripL_bytes, cleanL_bytes, headOk_bytes, strs, minsA, minA, sliceA, buildSliceA, buildA, structPlaces, fillA, splice, bytesOf, TView_asked.av, aR_eq, aR_eq]) (by simp [hl, s0, s2, s4, s5, s17, o_b1, o_b3, ex52a, ex52b, ex52c, ex52d, yex52b, yex52d, kx52, lx52, ofBytes_length, bytesOf_ofBytes, stripL_bytes, cleanL_bytes, headOk_bytes, strs, minsA, minA, sliceA, buildSliceA, buildA, structPlaces, fillA, splice, bytesOf, TView_asked.av, aR_eq, aR_eq] <;> exact rfl) (by simp [hl, s0, s2, s4, s5, s17, o_b1, o_b3, ex52a, ex52b, ex52c, ex52d, yex52b, yex52d, kx52, lx52, ofBytes_length, bytesOf_ofBytes, stripL_bytes, cleanL_bytes, headOk_bytes, strs, minsA, minA, sliceA, buildSliceA, buildA, structPlaces, fillA, splice, bytesOf, TView_asked.av, aR_eq, aR_eq] <;> exact rfl) o_b3 (by simp [hl, s0, s2, s4, s5, s17, o_b1, o_b3, ex52a, ex52b, ex52c, ex52d, yex52b, yex52d, kx52, lx52, ofBytes_length, bytesOf_ofBytes, stripL_bytes, cleanL_bytes, headOk_bytes, strs, minsA, minA, sliceA, buildSliceA, buildA, structPlaces, fillA, splice, bytesOf, TView_asked.av, aR_eq, aR_eq]) (by simp) (by simp) (by simp [AV.one]) (by simp [splice]) ?_
          intro h54 up
          have o_b1 := up.cells o_b1 n_b1_b3
          have o_b3 := up.get
          clear up
          try dsimp only [St.put]
          refine EvOps.gen (fun fr => fr.length = 48 ∧ slotAt fr 0 = some (.list (v8.map AV.str) nn9 c10 τ11) ∧ slotAt fr 2 = some (AV.ptr b1 0) ∧ slotAt fr 4 = some (AV.ptr b3 0)) ⟨by simp [hl], by simp [hl, s0, s2, s4, s5, s17, o_b1, o_b3, ex52a, ex52b, ex52c, ex52d, yex52b, yex52d, kx52, lx52, ofBytes_length, bytesOf_ofBytes, stripL_bytes, cleanL_bytes, headOk_bytes, strs, minsA, minA, sliceA, buildSliceA, buildA, structPlaces, fillA, splice, bytesOf, TView_asked.av, aR_eq, aR_eq], by simp [hl, s0, s2, s4, s5, s17, o_b1, o_b3, ex52a, ex52b, ex52c, ex52d, yex52b, yex52d, kx52, lx52, ofBytes_length, bytesOf_ofBytes, stripL_bytes, cleanL_bytes, headOk_bytes, strs, minsA, minA, sliceA, buildSliceA, buildA, structPlaces, fillA, splice, bytesOf, TView_asked.av, aR_eq, aR_eq], by simp [hl, s0, s2, s4, s5, s17, o_b1, o_b3, ex52a, ex52b, ex52c, ex52d, yex52b, yex52d, kx52, lx52, ofBytes_length, bytesOf_ofBytes, stripL_bytes, cleanL_bytes, headOk_bytes, strs, minsA, minA, sliceA, buildSliceA, buildA, structPlaces, fillA, splice, bytesOf, TView_asked.av, aR_eq, aR_eq]⟩ ?_
          clear hl s0 s2 s4 s5 s17 fr
          rintro fr ⟨hl, s0, s2, s4⟩
          refine EvOps.done ?_
          refine Ev.exit ?_
          exact ⟨_, h54, d7, v12, v13, v14, v15, x52, v17, true, v19, rfl, hl, by simp [hl, s0, s2, s4, o_b1, o_b3, ofBytes_length, bytesOf_ofBytes, stripL_bytes, cleanL_bytes, headOk_bytes, strs, minsA, minA, sliceA, buildSliceA, buildA, structPlaces, fillA, splice, bytesOf, TView_asked.av, aR_eq, aR_eq], by simp [hl, s0, s2, s4, o_b1, o_b3, ofBytes_length, bytesOf_ofBytes, stripL_bytes, cleanL_bytes, headOk_bytes, strs, minsA, minA, sliceA, buildSliceA, buildA, structPlaces, fillA, splice, bytesOf, TView_asked.av, aR_eq, aR_eq], by simp [hl, s0, s2, s4, o_b1, o_b3, ofBytes_length, bytesOf_ofBytes, stripL_bytes, cleanL_bytes, headOk_bytes, strs, minsA, minA, sliceA, buildSliceA, buildA, structPlaces, fillA, splice, bytesOf, TView_asked.av, aR_eq, aR_eq], o_b1, o_b3, n_b1_b3, hg⟩
        · rw [if_neg (by rw [h_51]; simp)] at hg
          refine Ev.seq ?_
          refine Ev.region ?_
          refine EvOps.mono (Q := fun st => ∃ fr, st = ⟨fr, h6, d7⟩ ∧ fr.length = 48 ∧ slotAt fr 0 = some (.list (v8.map AV.str) nn9 c10 τ11) ∧ slotAt fr 2 = some (AV.ptr b1 0) ∧ slotAt fr 4 = some (AV.ptr b3 0) ∧ slotAt fr 30 = some (AV.bool ((((r49 : Int) == 1) && (!v19))))) ?_ ?_
          · refine EvOps.mid 7 (fun st => ∃ fr, st = ⟨fr, h6, d7⟩ ∧ fr.length = 48 ∧ slotAt fr 0 = some (.list (v8.map AV.str) nn9 c10 τ11) ∧ slotAt fr 2 = some (AV.ptr b1 0) ∧ slotAt fr 4 = some (AV.ptr b3 0) ∧ slotAt fr 37 = some (AV.bool ((((r49 : Int) == 1) && (!v19))))) ?_ ?_
            · refine EvOps.take 3 ?_
              apply EvOps.run
              · intro call; simp [hl, s0, s2, s4, s5, s17, o_b1, o_b3, ofBytes_length, bytesOf_ofBytes, stripL_bytes, cleanL_bytes, headOk_bytes, strs, minsA, minA, sliceA, buildSliceA, buildA, structPlaces, fillA, splice, bytesOf, TView_asked.av, aR_eq, aR_eq]; exact rfl
              refine EvOps.gen (fun fr => fr.length = 48 ∧ slotAt fr 0 = some (.list (v8.map AV.str) nn9 c10 τ11) ∧ slotAt fr 2 = some (AV.ptr b1 0) ∧ slotAt fr 4 = some (AV.ptr b3 0) ∧ slotAt fr 33 = some (AV.bool (((r49 : Int) == 1)))) ⟨by simp [hl], by simp [hl, s0, s2, s4, s5, s17, o_b1, o_b3, ofBytes_length, bytesOf_ofBytes, stripL_bytes, cleanL_bytes, headOk_bytes, strs, minsA, minA, sliceA, buildSliceA, buildA, structPlaces, fillA, splice, bytesOf, TView_asked.av, aR_eq, aR_eq], by simp [hl, s0, s2, s4, s5, s17, o_b1, o_b3, ofBytes_length, bytesOf_ofBytes, stripL_bytes, cleanL_bytes, headOk_bytes, strs, minsA, minA, sliceA, buildSliceA, buildA, structPlaces, fillA, splice, bytesOf, TView_asked.av, aR_eq, aR_eq], by simp [hl, s0, s2, s4, s5, s17, o_b1, o_b3, ofBytes_length, bytesOf_ofBytes, stripL_bytes, cleanL_bytes, headOk_bytes, strs, minsA, minA, sliceA, buildSliceA, buildA, structPlaces, fillA, splice, bytesOf, TView_asked.av, aR_eq, aR_eq], by simp [hl, s0, s2, s4, s5, s17, o_b1, o_b3, ofBytes_length, bytesOf_ofBytes, stripL_bytes, cleanL_bytes, headOk_bytes, strs, minsA, minA, sliceA, buildSliceA, buildA, structPlaces, fillA, splice, bytesOf, TView_asked.av, aR_eq, aR_eq]⟩ ?_
              clear hl s0 s2 s4 s5 s17 fr
              rintro fr ⟨hl, s0, s2, s4, s33⟩
              obtain ⟨w55, hw55⟩ : ∃ b : Bool, b = (((r49 : Int) == 1)) := ⟨_, rfl⟩
              rw [← hw55] at s33
              cases w55 with
              | true =>
                apply EvOps.run
                · intro call; simp [hl, s0, s2, s4, s33, o_b1, o_b3, ofBytes_length, bytesOf_ofBytes, stripL_bytes, cleanL_bytes, headOk_bytes, strs, minsA, minA, sliceA, buildSliceA, buildA, structPlaces, fillA, splice, bytesOf, TView_asked.av, aR_eq, aR_eq]; exact rfl
                exact ⟨_, rfl, by simp [hl], by simp [hl, s0, s2, s4, s33, o_b1, o_b3, ofBytes_length, bytesOf_ofBytes, stripL_bytes, cleanL_bytes, headOk_bytes, strs, minsA, minA, sliceA, buildSliceA, buildA, structPlaces, fillA, splice, bytesOf, TView_asked.av, aR_eq, aR_eq], by simp [hl, s0, s2, s4, s33, o_b1, o_b3, ofBytes_length, bytesOf_ofBytes, stripL_bytes, cleanL_bytes, headOk_bytes, strs, minsA, minA, sliceA, buildSliceA, buildA, structPlaces, fillA, splice, bytesOf, TView_asked.av, aR_eq, aR_eq], by simp [hl, s0, s2, s4, s33, o_b1, o_b3, ofBytes_length, bytesOf_ofBytes, stripL_bytes, cleanL_bytes, headOk_bytes, strs, minsA, minA, sliceA, buildSliceA, buildA, structPlaces, fillA, splice, bytesOf, TView_asked.av, aR_eq, aR_eq], by first | (simp [hl, s0, s2, s4, s33, o_b1, o_b3, ofBytes_length, bytesOf_ofBytes, stripL_bytes, cleanL_bytes, headOk_bytes, strs, minsA, minA, sliceA, buildSliceA, buildA, structPlaces, fillA, splice, bytesOf, TView_asked.av, aR_eq, aR_eq]; done) | ((try simp only [← hw55]); (first | done | simp [hl, s0, s2, s4, s33, o_b1, o_b3, ofBytes_length, bytesOf_ofBytes, stripL_bytes, cleanL_bytes, headOk_bytes, strs, minsA, minA, sliceA, buildSliceA, buildA, structPlaces, fillA, splice, bytesOf, TView_asked.av, aR_eq, aR_eq]))⟩
              | false =>
                apply EvOps.run
                · intro call; simp [hl, s0, s2, s4, s33, o_b1, o_b3, ofBytes_length, bytesOf_ofBytes, stripL_bytes, cleanL_bytes, headOk_bytes, strs, minsA, minA, sliceA, buildSliceA, buildA, structPlaces, fillA, splice, bytesOf, TView_asked.av, aR_eq, aR_eq]; exact rfl
                exact ⟨_, rfl, by simp [hl], by simp [hl, s0, s2, s4, s33, o_b1, o_b3, ofBytes_length, bytesOf_ofBytes, stripL_bytes, cleanL_bytes, headOk_bytes, strs, minsA, minA, sliceA, buildSliceA, buildA, structPlaces, fillA, splice, bytesOf, TView_asked.av, aR_eq, aR_eq], by simp [hl, s0, s2, s4, s33, o_b1, o_b3, ofBytes_length, bytesOf_ofBytes, stripL_bytes, cleanL_bytes, headOk_bytes, strs, minsA, minA, sliceA, buildSliceA, buildA, structPlaces, fillA, splice, bytesOf, TView_asked.av, aR_eq, aR_eq], by simp [hl, s0, s2, s4, s33, o_b1, o_b3, ofBytes_length, bytesOf_ofBytes, stripL_bytes, cleanL_bytes, headOk_bytes, strs, minsA, minA, sliceA, buildSliceA, buildA, structPlaces, fillA, splice, bytesOf, TView_asked.av, aR_eq, aR_eq], by first | (simp [hl, s0, s2, s4, s33, o_b1, o_b3, ofBytes_length, bytesOf_ofBytes, stripL_bytes, cleanL_bytes, headOk_bytes, strs, minsA, minA, sliceA, buildSliceA, buildA, structPlaces, fillA, splice, bytesOf, TView_asked.av, aR_eq, aR_eq]; done) | ((try simp only [← hw55]); (first | done | simp [hl, s0, s2, s4, s33, o_b1, o_b3, ofBytes_length, bytesOf_ofBytes, stripL_bytes, cleanL_bytes, headOk_bytes, strs, minsA, minA, sliceA, buildSliceA, buildA, structPlaces, fillA, splice, bytesOf, TView_asked.av, aR_eq, aR_eq]))⟩
            · clear hl s0 s2 s4 s5 s17 fr
              rintro st ⟨fr, rfl, hl, s0, s2, s4, s37⟩
              apply EvOps.run
              · intro call; simp [hl, s0, s2, s4, s37, o_b1, o_b3, ofBytes_length, bytesOf_ofBytes, stripL_bytes, cleanL_bytes, headOk_bytes, strs, minsA, minA, sliceA, buildSliceA, buildA, structPlaces, fillA, splice, bytesOf, TView_asked.av, aR_eq, aR_eq]; exact rfl
              exact ⟨_, rfl, by simp [hl], by simp [hl, s0, s2, s4, s37, o_b1, o_b3, ofBytes_length, bytesOf_ofBytes, stripL_bytes, cleanL_bytes, headOk_bytes, strs, minsA, minA, sliceA, buildSliceA, buildA, structPlaces, fillA, splice, bytesOf, TView_asked.av, aR_eq, aR_eq], by simp [hl, s0, s2, s4, s37, o_b1, o_b3, ofBytes_length, bytesOf_ofBytes, stripL_bytes, cleanL_bytes, headOk_bytes, strs, minsA, minA, sliceA, buildSliceA, buildA, structPlaces, fillA, splice, bytesOf, TView_asked.av, aR_eq, aR_eq], by simp [hl, s0, s2, s4, s37, o_b1, o_b3, ofBytes_length, bytesOf_ofBytes, stripL_bytes, cleanL_bytes, headOk_bytes, strs, minsA, minA, sliceA, buildSliceA, buildA, structPlaces, fillA, splice, bytesOf, TView_asked.av, aR_eq, aR_eq], by simp [hl, s0, s2, s4, s37, o_b1, o_b3, ofBytes_length, bytesOf_ofBytes, stripL_bytes, cleanL_bytes, headOk_bytes, strs, minsA, minA, sliceA, buildSliceA, buildA, structPlaces, fillA, splice, bytesOf, TView_asked.av, aR_eq, aR_eq]⟩
          clear hl s0 s2 s4 s5 s17 fr
          rintro st ⟨fr, rfl, hl, s0, s2, s4, s30⟩
          refine Ev.cond ((((r49 : Int) == 1) && (!v19))) (by simp [hl, s0, s2, s4, s30, o_b1, o_b3, ofBytes_length, bytesOf_ofBytes, stripL_bytes, cleanL_bytes, headOk_bytes, strs, minsA, minA, sliceA, buildSliceA, buildA, structPlaces, fillA, splice, bytesOf, TView_asked.av, aR_eq, aR_eq]) (fun h_56 => ?_) (fun h_56 => ?_)
          · rw [if_pos h_56] at hg
            refine Ev.seq ?_
            refine Ev.region ?_
            obtain ⟨x57, ex57, hg⟩ := bind_some hg
            obtain ⟨ex57a, ex57b, ex57c, ex57d⟩ := getAt_some ex57
            have yex57b := ex57b
            try simp at yex57b
            have yex57d := ex57d
            try simp at yex57d
            have kx57 : v8[1]? = some x57 := ex57c
            have lx57 : ∀ h : 1 < List.length v8, v8[1]'h = x57 := ex57d
            refine EvOps.take 4 ?_
            apply EvOps.run
            · intro call; simp [hl, s0, s2, s4, s30, o_b1, o_b3, ex57a, ex57b, ex57c, ex57d, yex57b, yex57d, kx57, lx57, ofBytes_length, bytesOf_ofBytes, stripL_bytes, cleanL_bytes, headOk_bytes, strs, minsA, minA, sliceA, buildSliceA, buildA, structPlaces, fillA, splice, bytesOf, TView_asked.av, aR_eq, aR_eq]; exact rfl
            refine EvOps.storeR (b := b3) (off := 1) (vs := [AV.str x57]) (cs' := [AV.str v16, AV.str x57, AV.bool v18, AV.bool v19]) rfl (by simp [hl, s0, s2, s4, s30, o_b1, o_b3, ex57a, ex57b, ex57c, ex57d, yex57b, yex57d, kx57, lx57, ofBytes_length, bytesOf_ofBytes, stripL_bytes, cleanL_bytes, headOk_bytes, strs, minsA, minA, sliceA, buildSliceA, buildA, structPlaces, fillA, splice, bytesOf, TView_asked.av, aR_eq, aR_eq]) (by simp [hl, s0, s2, s4, s30, o_b1, o_b3, ex57a, ex57b, ex57c, ex57d, yex57b, yex57d, kx57, lx57, ofBytes_length, bytesOf_ofBytes, stripL_bytes, cleanL_bytes, headOk_bytes, strs, minsA, minA, sliceA, buildSliceA, buildA, structPlaces, fillA, splice, bytesOf, TView_asked.av, aR_eq, aR_eq] <;> exact rfl) (by simp [hl, s0, s2, s4, s30, o_b1, o_b3, ex57a, ex57b, ex57c, ex57d, yex57b, yex57d, kx57, lx57, ofBytes_length, bytesOf_ofBytes, stripL_bytes, cleanL_bytes, headOk_bytes, strs, minsA, minA, sliceA, buildSliceA, buildA, structPlaces, fillA, splice, bytesOf, TView_asked.av, aR_eq, aR_eq] <;> exact rfl) o_b3 (by simp [hl, s0, s2, s4, s30, o_b1, o_b3, ex57a, ex57b, ex57c, ex57d, yex57b, yex57d, kx57, lx57, ofBytes_length, bytesOf_ofBytes, stripL_bytes, cleanL_bytes, headOk_bytes, strs, minsA, minA, sliceA, buildSliceA, buildA, structPlaces, fillA, splice, bytesOf, TView_asked.av, aR_eq, aR_eq]) (by simp) (by simp) (by simp [AV.one]) (by simp [splice]) ?_
            intro h58 up
            have o_b1 := up.cells o_b1 n_b1_b3
            have o_b3 := up.get
            clear up
            refine EvOps.take 1 ?_
            apply EvOps.run
            · intro call; simp [hl, s0, s2, s4, s30, o_b1, o_b3, ex57a, ex57b, ex57c, ex57d, yex57b, yex57d, kx57, lx57, ofBytes_length, bytesOf_ofBytes, stripL_bytes, cleanL_bytes, headOk_bytes, strs, minsA, minA, sliceA, buildSliceA, buildA, structPlaces, fillA, splice, bytesOf, TView_asked.av, aR_eq, aR_eq]; exact rfl
            refine EvOps.storeR (b := b3) (off := 3) (vs := [AV.bool true]) (cs' := [AV.str v16, AV.str x57, AV.bool v18, AV.bool true]) rfl (by simp [hl, s0, s2, s4, s30, o_b1, o_b3, ex57a, ex57b, ex57c, ex57d, yex57b, yex57d, kx57, lx57, ofBytes_length, bytesOf_ofBytes, stripL_bytes, cleanL_bytes, headOk_bytes, strs, minsA, minA, sliceA, buildSliceA, buildA, structPlaces, fillA, splice, bytesOf, TView_asked.av, aR_eq, aR_eq]) (by simp [hl, s0, s2, s4, s30, o_b1, o_b3, ex57a, ex57b, ex57c, ex57d, yex57b, yex57d, kx57, lx57, ofBytes_length, bytesOf_ofBytes, stripL_bytes, cleanL_bytes, headOk_bytes, strs, minsA, minA, sliceA, buildSliceA, buildA, structPlaces, fillA, splice, bytesOf, TView_asked.av, aR_eq, aR_eq] <;> exact rfl) (by simp [hl, s0, s2, s4, s30, o_b1, o_b3, ex57a, ex57b, ex57c, ex57d, yex57b, yex57d, kx57, lx57, ofBytes_length, bytesOf_ofBytes, stripL_bytes, cleanL_bytes, headOk_bytes, strs, minsA, minA, sliceA, buildSliceA, buildA, structPlaces, fillA, splice, bytesOf, TView_asked.av, aR_eq, aR_eq] <;> exact rfl) o_b3 (by simp [hl, s0, s2, s4, s30, o_b1, o_b3, ex57a, ex57b, ex57c, ex57d, yex57b, yex57d, kx57, lx57, ofBytes_length, bytesOf_ofBytes, stripL_bytes, cleanL_bytes, headOk_bytes, strs, minsA, minA, sliceA, buildSliceA, buildA, structPlaces, fillA, splice, bytesOf, TView_asked.av, aR_eq, aR_eq]) (by simp) (by simp) (by simp [AV.one]) (by simp [splice]) ?_
            intro h59 up
            have o_b1 := up.cells o_b1 n_b1_b3
            have o_b3 := up.get
            clear up
            try dsimp only [St.put]
            refine EvOps.gen (fun fr => fr.length = 48 ∧ slotAt fr 0 = some (.list (v8.map AV.str) nn9 c10 τ11) ∧ slotAt fr 2 = some (AV.ptr b1 0) ∧ slotAt fr 4 = some (AV.ptr b3 0)) ⟨by simp [hl], by simp [hl, s0, s2, s4, s30, o_b1, o_b3, ex57a, ex57b, ex57c, ex57d, yex57b, yex57d, kx57, lx57, ofBytes_length, bytesOf_ofBytes, stripL_bytes, cleanL_bytes, headOk_bytes, strs, minsA, minA, sliceA, buildSliceA, buildA, structPlaces, fillA, splice, bytesOf, TView_asked.av, aR_eq, aR_eq], by simp [hl, s0, s2, s4, s30, o_b1, o_b3, ex57a, ex57b, ex57c, ex57d, yex57b, yex57d, kx57, lx57, ofBytes_length, bytesOf_ofBytes, stripL_bytes, cleanL_bytes, headOk_bytes, strs, minsA, minA, sliceA, buildSliceA, buildA, structPlaces, fillA, splice, bytesOf, TView_asked.av, aR_eq, aR_eq], by simp [hl, s0, s2, s4, s30, o_b1, o_b3, ex57a, ex57b, ex57c, ex57d, yex57b, yex57d, kx57, lx57, ofBytes_length, bytesOf_ofBytes, stripL_bytes, cleanL_bytes, headOk_bytes, strs, minsA, minA, sliceA, buildSliceA, buildA, structPlaces, fillA, splice, bytesOf, TView_asked.av, aR_eq, aR_eq]⟩ ?_
            clear hl s0 s2 s4 s30 fr
            rintro fr ⟨hl, s0, s2, s4⟩
            refine EvOps.done ?_
            refine Ev.exit ?_
            exact ⟨_, h59, d7, v12, v13, v14, v15, v16, x57, v18, true, rfl, hl, by simp [hl, s0, s2, s4, o_b1, o_b3, ofBytes_length, bytesOf_ofBytes, stripL_bytes, cleanL_bytes, headOk_bytes, strs, minsA, minA, sliceA, buildSliceA, buildA, structPlaces, fillA, splice, bytesOf, TView_asked.av, aR_eq, aR_eq], by simp [hl, s0, s2, s4, o_b1, o_b3, ofBytes_length, bytesOf_ofBytes, stripL_bytes, cleanL_bytes, headOk_bytes, strs, minsA, minA, sliceA, buildSliceA, buildA, structPlaces, fillA, splice, bytesOf, TView_asked.av, aR_eq, aR_eq], by simp [hl, s0, s2, s4, o_b1, o_b3, ofBytes_length, bytesOf_ofBytes, stripL_bytes, cleanL_bytes, headOk_bytes, strs, minsA, minA, sliceA, buildSliceA, buildA, structPlaces, fillA, splice, bytesOf, TView_asked.av, aR_eq, aR_eq], o_b1, o_b3, n_b1_b3, hg⟩
          · rw [if_neg (by rw [h_56]; simp)] at hg
            refine Ev.skip ?_
            refine Ev.exit ?_
            have hs := Option.some.inj hg; subst hs; clear hg; have ho := Option.some.inj hstep; subst ho
            exact ⟨rfl, _, h6, d7, v8, nn9, c10, τ11, v12, v13, v14, v15, v16, v17, v18, v19, rfl, hl, by simp [hl, s0, s2, s4, s30, o_b1, o_b3, ofBytes_length, bytesOf_ofBytes, stripL_bytes, cleanL_bytes, headOk_bytes, strs, minsA, minA, sliceA, buildSliceA, buildA, structPlaces, fillA, splice, bytesOf, TView_asked.av, aR_eq, aR_eq], by simp [hl, s0, s2, s4, s30, o_b1, o_b3, ofBytes_length, bytesOf_ofBytes, stripL_bytes, cleanL_bytes, headOk_bytes, strs, minsA, minA, sliceA, buildSliceA, buildA, structPlaces, fillA, splice, bytesOf, TView_asked.av, aR_eq, aR_eq], by simp [hl, s0, s2, s4, s30, o_b1, o_b3, ofBytes_length, bytesOf_ofBytes, stripL_bytes, cleanL_bytes, headOk_bytes, strs, minsA, minA, sliceA, buildSliceA, buildA, structPlaces, fillA, splice, bytesOf, TView_asked.av, aR_eq, aR_eq], o_b1, o_b3, n_b1_b3, rfl⟩
      · clear hg hl s0 s2 s4 s9 fr
        rintro st ⟨fr, h36, d37, v38, v39, v40, v41, v42, v43, v44, v45, rfl, hl, s0, s2, s4, o_b1, o_b3, n_b1_b3, hg⟩
        unfold F36_j45 at hg
        refine Ev.region ?_
        obtain ⟨u47, eu47, hg⟩ := bind_some hg
        have eu47 := chk_some eu47
        have yeu47 := eu47
        try simp at yeu47
        apply EvOps.keep (h' := h36) (d' := d37) (fun fr => fr.length = 48 ∧ slotAt fr 0 = some (.list ((List.drop 2 v8).map AV.str) nn9 (Option.map (· - 2) c10) none) ∧ slotAt fr 2 = some (AV.ptr b1 0) ∧ slotAt fr 4 = some (AV.ptr b3 0))
        · intro call; simp [hl, s0, s2, s4, o_b1, o_b3, eu47, yeu47, ofBytes_length, bytesOf_ofBytes, stripL_bytes, cleanL_bytes, headOk_bytes, strs, minsA, minA, sliceA, buildSliceA, buildA, structPlaces, fillA, splice, bytesOf, TView_asked.av, aR_eq, aR_eq]; exact rfl
        · exact ⟨by simp [hl], by simp [hl, s0, s2, s4, o_b1, o_b3, eu47, yeu47, ofBytes_length, bytesOf_ofBytes, stripL_bytes, cleanL_bytes, headOk_bytes, strs, minsA, minA, sliceA, buildSliceA, buildA, structPlaces, fillA, splice, bytesOf, TView_asked.av, aR_eq, aR_eq], by simp [hl, s0, s2, s4, o_b1, o_b3, eu47, yeu47, ofBytes_length, bytesOf_ofBytes, stripL_bytes, cleanL_bytes, headOk_bytes, strs, minsA, minA, sliceA, buildSliceA, buildA, structPlaces, fillA, splice, bytesOf, TView_asked.av, aR_eq, aR_eq], by simp [hl, s0, s2, s4, o_b1, o_b3, eu47, yeu47, ofBytes_length, bytesOf_ofBytes, stripL_bytes, cleanL_bytes, headOk_bytes, strs, minsA, minA, sliceA, buildSliceA, buildA, structPlaces, fillA, splice, bytesOf, TView_asked.av, aR_eq, aR_eq]⟩
        clear hl s0 s2 s4 fr
        rintro fr ⟨hl, s0, s2, s4⟩
        have hs := Option.some.inj hg; subst hs; clear hg
        exact ⟨m, Nat.lt_succ_self m, _, h36, d37, List.drop 2 v8, nn9, (Option.map (· - 2) c10), none, v38, v39, v40, v41, v42, v43, v44, v45, rfl, hl, by simp [hl, s0, s2, s4, o_b1, o_b3, ofBytes_length, bytesOf_ofBytes, stripL_bytes, cleanL_bytes, headOk_bytes, strs, minsA, minA, sliceA, buildSliceA, buildA, structPlaces, fillA, splice, bytesOf, TView_asked.av, aR_eq, aR_eq], by simp [hl, s0, s2, s4, o_b1, o_b3, ofBytes_length, bytesOf_ofBytes, stripL_bytes, cleanL_bytes, headOk_bytes, strs, minsA, minA, sliceA, buildSliceA, buildA, structPlaces, fillA, splice, bytesOf, TView_asked.av, aR_eq, aR_eq], by simp [hl, s0, s2, s4, o_b1, o_b3, ofBytes_length, bytesOf_ofBytes, stripL_bytes, cleanL_bytes, headOk_bytes, strs, minsA, minA, sliceA, buildSliceA, buildA, structPlaces, fillA, splice, bytesOf, TView_asked.av, aR_eq, aR_eq], o_b1, o_b3, n_b1_b3, hstep⟩
    · rw [if_neg (by rw [h_35]; simp)] at hg
      refine Ev.exit ?_
      have hs := Option.some.inj hg; subst hs; clear hg; have ho := Option.some.inj hstep; subst ho
      exact ⟨rfl, _, h6, d7, v8, nn9, c10, τ11, v12, v13, v14, v15, v16, v17, v18, v19, rfl, hl, by simp [hl, s0, s2, s4, s9, o_b1, o_b3, ofBytes_length, bytesOf_ofBytes, stripL_bytes, cleanL_bytes, headOk_bytes, strs, minsA, minA, sliceA, buildSliceA, buildA, structPlaces, fillA, splice, bytesOf, TView_asked.av, aR_eq, aR_eq], by simp [hl, s0, s2, s4, s9, o_b1, o_b3, ofBytes_length, bytesOf_ofBytes, stripL_bytes, cleanL_bytes, headOk_bytes, strs, minsA, minA, sliceA, buildSliceA, buildA, structPlaces, fillA, splice, bytesOf, TView_asked.av, aR_eq, aR_eq], by simp [hl, s0, s2, s4, s9, o_b1, o_b3, ofBytes_length, bytesOf_ofBytes, stripL_bytes, cleanL_bytes, headOk_bytes, strs, minsA, minA, sliceA, buildSliceA, buildA, structPlaces, fillA, splice, bytesOf, TView_asked.av, aR_eq, aR_eq], o_b1, o_b3, n_b1_b3, rfl⟩
  · clear eo60 hl s0 s2 s4 fr
    rintro x st (⟨rfl, fr, h21, d22, v23, nn24, c25, τ26, v27, v28, v29, v30, v31, v32, v33, v34, rfl, hl, s0, s2, s4, o_b1, o_b3, n_b1_b3, ho⟩)
    rw [ho] at hg; (try dsimp only at hg); clear ho
    refine Ev.seq ?_
    refine Ev.seq ?_
    refine Ev.region ?_
    apply EvOps.keep (h' := h21) (d' := d22) (fun fr => fr.length = 48 ∧ slotAt fr 2 = some (AV.ptr b1 0) ∧ slotAt fr 4 = some (AV.ptr b3 0) ∧ slotAt fr 45 = some (AV.bool (decide (((List.length v23 : Int) : Int) > 0))))
    · intro call; simp [hl, s0, s2, s4, o_b1, o_b3, ofBytes_length, bytesOf_ofBytes, stripL_bytes, cleanL_bytes, headOk_bytes, strs, minsA, minA, sliceA, buildSliceA, buildA, structPlaces, fillA, splice, bytesOf, TView_asked.av, aR_eq, aR_eq]; exact rfl
    · exact ⟨by simp [hl], by simp [hl, s0, s2, s4, o_b1, o_b3, ofBytes_length, bytesOf_ofBytes, stripL_bytes, cleanL_bytes, headOk_bytes, strs, minsA, minA, sliceA, buildSliceA, buildA, structPlaces, fillA, splice, bytesOf, TView_asked.av, aR_eq, aR_eq], by simp [hl, s0, s2, s4, o_b1, o_b3, ofBytes_length, bytesOf_ofBytes, stripL_bytes, cleanL_bytes, headOk_bytes, strs, minsA, minA, sliceA, buildSliceA, buildA, structPlaces, fillA, splice, bytesOf, TView_asked.av, aR_eq, aR_eq], by simp [hl, s0, s2, s4, o_b1, o_b3, ofBytes_length, bytesOf_ofBytes, stripL_bytes, cleanL_bytes, headOk_bytes, strs, minsA, minA, sliceA, buildSliceA, buildA, structPlaces, fillA, splice, bytesOf, TView_asked.av, aR_eq, aR_eq]⟩
    clear hl s0 s2 s4 fr
    rintro fr ⟨hl, s2, s4, s45⟩
    refine Ev.cond (decide (((List.length v23 : Int) : Int) > 0)) (by simp [hl, s2, s4, s45, o_b1, o_b3, ofBytes_length, bytesOf_ofBytes, stripL_bytes, cleanL_bytes, headOk_bytes, strs, minsA, minA, sliceA, buildSliceA, buildA, structPlaces, fillA, splice, bytesOf, TView_asked.av, aR_eq, aR_eq]) (fun h_61 => ?_) (fun h_61 => ?_)
    · rw [if_pos h_61] at hg
      refine Ev.seq ?_
      refine Ev.region ?_
      refine EvOps.take 1 ?_
      apply EvOps.run
      · intro call; simp [hl, s2, s4, s45, o_b1, o_b3, ofBytes_length, bytesOf_ofBytes, stripL_bytes, cleanL_bytes, headOk_bytes, strs, minsA, minA, sliceA, buildSliceA, buildA, structPlaces, fillA, splice, bytesOf, TView_asked.av, aR_eq, aR_eq]; exact rfl
      refine EvOps.storeR (b := b1) (off := 0) (vs := [AV.str v31, AV.str v32, AV.bool v33, AV.bool v34]) (cs' := [AV.str v31, AV.str v32, AV.bool v33, AV.bool v34]) rfl (by simp [hl, s2, s4, s45, o_b1, o_b3, ofBytes_length, bytesOf_ofBytes, stripL_bytes, cleanL_bytes, headOk_bytes, strs, minsA, minA, sliceA, buildSliceA, buildA, structPlaces, fillA, splice, bytesOf, TView_asked.av, aR_eq, aR_eq]) (by simp [hl, s2, s4, s45, o_b1, o_b3, ofBytes_length, bytesOf_ofBytes, stripL_bytes, cleanL_bytes, headOk_bytes, strs, minsA, minA, sliceA, buildSliceA, buildA, structPlaces, fillA, splice, bytesOf, TView_asked.av, aR_eq, aR_eq] <;> exact rfl) (by simp [hl, s2, s4, s45, o_b1, o_b3, ofBytes_length, bytesOf_ofBytes, stripL_bytes, cleanL_bytes, headOk_bytes, strs, minsA, minA, sliceA, buildSliceA, buildA, structPlaces, fillA, splice, bytesOf, TView_asked.av, aR_eq, aR_eq] <;> exact rfl) o_b1 (by simp [hl, s2, s4, s45, o_b1, o_b3, ofBytes_length, bytesOf_ofBytes, stripL_bytes, cleanL_bytes, headOk_bytes, strs, minsA, minA, sliceA, buildSliceA, buildA, structPlaces, fillA, splice, bytesOf, TView_asked.av, aR_eq, aR_eq]) (by simp) (by simp) (by simp [AV.one]) (by simp [splice]) ?_
      intro h62 up
      have o_b3 := up.cells o_b3 (Ne.symm n_b1_b3)
      have o_b1 := up.get
      clear up
      apply EvOps.keep (h' := h62) (d' := d22) (fun fr => fr.length = 48 ∧ slotAt fr 2 = some (AV.ptr b1 0) ∧ slotAt fr 3 = some (AV.int .i64 42))
      · intro call; simp [hl, s2, s4, s45, o_b1, o_b3, ofBytes_length, bytesOf_ofBytes, stripL_bytes, cleanL_bytes, headOk_bytes, strs, minsA, minA, sliceA, buildSliceA, buildA, structPlaces, fillA, splice, bytesOf, TView_asked.av, aR_eq, aR_eq]; exact rfl
      · exact ⟨by simp [hl], by simp [hl, s2, s4, s45, o_b1, o_b3, ofBytes_length, bytesOf_ofBytes, stripL_bytes, cleanL_bytes, headOk_bytes, strs, minsA, minA, sliceA, buildSliceA, buildA, structPlaces, fillA, splice, bytesOf, TView_asked.av, aR_eq, aR_eq], by simp [hl, s2, s4, s45, o_b1, o_b3, ofBytes_length, bytesOf_ofBytes, stripL_bytes, cleanL_bytes, headOk_bytes, strs, minsA, minA, sliceA, buildSliceA, buildA, structPlaces, fillA, splice, bytesOf, TView_asked.av, aR_eq, aR_eq]⟩
      clear hl s2 s4 s45 fr
      rintro fr ⟨hl, s2, s3⟩
      refine Ev.ret ?_
      have hs := Option.some.inj hg; subst hs
      exact ⟨AV.tuple [AV.agg [AV.str v31, AV.str v32, AV.bool v33, AV.bool v34], AV.int .i64 42], by simp [Try.f36, hl, s2, s3, o_b1, o_b3, ofBytes_length, bytesOf_ofBytes, stripL_bytes, cleanL_bytes, headOk_bytes, strs, minsA, minA, sliceA, buildSliceA, buildA, structPlaces, fillA, splice, bytesOf, TView_asked.av, aR_eq, aR_eq] <;> exact rfl, by simp [strs, TView_asked.av, aR_eq, aR_eq]⟩
    · rw [if_neg (by rw [h_61]; simp)] at hg
      refine Ev.skip ?_
      refine Ev.seq ?_
      refine Ev.region ?_
      refine EvOps.take 1 ?_
      apply EvOps.run
      · intro call; simp [hl, s2, s4, s45, o_b1, o_b3, ofBytes_length, bytesOf_ofBytes, stripL_bytes, cleanL_bytes, headOk_bytes, strs, minsA, minA, sliceA, buildSliceA, buildA, structPlaces, fillA, splice, bytesOf, TView_asked.av, aR_eq, aR_eq]; exact rfl
      refine EvOps.storeR (b := b1) (off := 0) (vs := [AV.str v31, AV.str v32, AV.bool v33, AV.bool v34]) (cs' := [AV.str v31, AV.str v32, AV.bool v33, AV.bool v34]) rfl (by simp [hl, s2, s4, s45, o_b1, o_b3, ofBytes_length, bytesOf_ofBytes, stripL_bytes, cleanL_bytes, headOk_bytes, strs, minsA, minA, sliceA, buildSliceA, buildA, structPlaces, fillA, splice, bytesOf, TView_asked.av, aR_eq, aR_eq]) (by simp [hl, s2, s4, s45, o_b1, o_b3, ofBytes_length, bytesOf_ofBytes, stripL_bytes, cleanL_bytes, headOk_bytes, strs, minsA, minA, sliceA, buildSliceA, buildA, structPlaces, fillA, splice, bytesOf, TView_asked.av, aR_eq, aR_eq] <;> exact rfl) (by simp [hl, s2, s4, s45, o_b1, o_b3, ofBytes_length, bytesOf_ofBytes, stripL_bytes, cleanL_bytes, headOk_bytes, strs, minsA, minA, sliceA, buildSliceA, buildA, structPlaces, fillA, splice, bytesOf, TView_asked.av, aR_eq, aR_eq] <;> exact rfl) o_b1 (by simp [hl, s2, s4, s45, o_b1, o_b3, ofBytes_length, bytesOf_ofBytes, stripL_bytes, cleanL_bytes, headOk_bytes, strs, minsA, minA, sliceA, buildSliceA, buildA, structPlaces, fillA, splice, bytesOf, TView_asked.av, aR_eq, aR_eq]) (by simp) (by simp) (by simp [AV.one]) (by simp [splice]) ?_
      intro h63 up
      have o_b3 := up.cells o_b3 (Ne.symm n_b1_b3)
      have o_b1 := up.get
      clear up
      apply EvOps.keep (h' := h63) (d' := d22) (fun fr => fr.length = 48 ∧ slotAt fr 2 = some (AV.ptr b1 0) ∧ slotAt fr 3 = some (AV.int .i64 0))
      · intro call; simp [hl, s2, s4, s45, o_b1, o_b3, ofBytes_length, bytesOf_ofBytes, stripL_bytes, cleanL_bytes, headOk_bytes, strs, minsA, minA, sliceA, buildSliceA, buildA, structPlaces, fillA, splice, bytesOf, TView_asked.av, aR_eq, aR_eq]; exact rfl
      · exact ⟨by simp [hl], by simp [hl, s2, s4, s45, o_b1, o_b3, ofBytes_length, bytesOf_ofBytes, stripL_bytes, cleanL_bytes, headOk_bytes, strs, minsA, minA, sliceA, buildSliceA, buildA, structPlaces, fillA, splice, bytesOf, TView_asked.av, aR_eq, aR_eq], by simp [hl, s2, s4, s45, o_b1, o_b3, ofBytes_length, bytesOf_ofBytes, stripL_bytes, cleanL_bytes, headOk_bytes, strs, minsA, minA, sliceA, buildSliceA, buildA, structPlaces, fillA, splice, bytesOf, TView_asked.av, aR_eq, aR_eq]⟩
      clear hl s2 s4 s45 fr
      rintro fr ⟨hl, s2, s3⟩
      refine Ev.ret ?_
      have hs := Option.some.inj hg; subst hs
      exact ⟨AV.tuple [AV.agg [AV.str v31, AV.str v32, AV.bool v33, AV.bool v34], AV.int .i64 0], by simp [Try.f36, hl, s2, s3, o_b1, o_b3, ofBytes_length, bytesOf_ofBytes, stripL_bytes, cleanL_bytes, headOk_bytes, strs, minsA, minA, sliceA, buildSliceA, buildA, structPlaces, fillA, splice, bytesOf, TView_asked.av, aR_eq, aR_eq] <;> exact rfl, by simp [strs, TView_asked.av, aR_eq, aR_eq]⟩

end Go.Proofs.Ytpfdfilkhaoibaa
