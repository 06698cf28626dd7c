/-
  Parts, one behind the other: Va_2.
-/
import Derived.Test.YtpfdfilkhaoibaaMg
/-
  Lifted functions.
-/
namespace Go.Proofs.Ytpfdfilkhaoibaa
open Go Ev
set_option linter.unusedVariables false
set_option linter.unusedSimpArgs false
set_option maxRecDepth 100000
/-- pentimento/view.Pages -/
def F9_j37 (k : Nat) (v34 : Int) (v35 : Int) (v36 : Int) (v37 : S) : Option (TView_Page × Int) :=
  some (((⟨v34, v35, v36, v37⟩ : TView_Page), 0))
def F9 (k : Nat) (a0 : Int) (a1 : List S) : Option (TView_Page × Int) :=
  (if (((List.length a1 : Int) : Int) == 0) = true then some (((⟨0, 0, 0, []⟩ : TView_Page), 43)) else (chk (1 ≤ (List.length a1 : Int))).bind fun _ => (F36 k (List.drop 1 a1)).bind fun r6 => (if ((r6.2 : Int) != 0) = true then some (((⟨0, 0, 0, []⟩ : TView_Page), r6.2)) else (getAt a1 0).bind fun x12 => (F37 k [x12, r6.1.f_count]).bind fun r13 => (if ((r13.2 : Int) != 0) = true then some (((⟨0, 0, 0, []⟩ : TView_Page), r13.2)) else (getAt r13.1 0).bind fun x16 => (if decide ((x16 : Int) < 0) = true then some true else ((getAt r13.1 1).bind fun x17 => some (decide ((x17 : Int) < 1)))).bind fun q18 => (if q18 = true then some (((⟨0, 0, 0, []⟩ : TView_Page), 44)) else (getAt r13.1 0).bind fun x22 => (getAt r13.1 1).bind fun x26 => (if decide ((IntKind.wrap .i64 (((if ((if (0 : Int) > a0 then 0 else a0) : Int) < x22 then (if (0 : Int) > a0 then 0 else a0) else x22)) + ((if (IntKind.wrap .i64 (((if (0 : Int) > a0 then 0 else a0)) - ((if ((if (0 : Int) > a0 then 0 else a0) : Int) < x22 then (if (0 : Int) > a0 then 0 else a0) else x22))) : Int) < x26 then IntKind.wrap .i64 (((if (0 : Int) > a0 then 0 else a0)) - ((if ((if (0 : Int) > a0 then 0 else a0) : Int) < x22 then (if (0 : Int) > a0 then 0 else a0) else x22))) else x26))) : Int) < (if (0 : Int) > a0 then 0 else a0)) = true then F9_j37 k ((if ((if (0 : Int) > a0 then 0 else a0) : Int) < x22 then (if (0 : Int) > a0 then 0 else a0) else x22)) (IntKind.wrap .i64 (((if ((if (0 : Int) > a0 then 0 else a0) : Int) < x22 then (if (0 : Int) > a0 then 0 else a0) else x22)) + ((if (IntKind.wrap .i64 (((if (0 : Int) > a0 then 0 else a0)) - ((if ((if (0 : Int) > a0 then 0 else a0) : Int) < x22 then (if (0 : Int) > a0 then 0 else a0) else x22))) : Int) < x26 then IntKind.wrap .i64 (((if (0 : Int) > a0 then 0 else a0)) - ((if ((if (0 : Int) > a0 then 0 else a0) : Int) < x22 then (if (0 : Int) > a0 then 0 else a0) else x22))) else x26)))) (IntKind.wrap .i64 (((if ((if (0 : Int) > a0 then 0 else a0) : Int) < x22 then (if (0 : Int) > a0 then 0 else a0) else x22)) + ((if (IntKind.wrap .i64 (((if (0 : Int) > a0 then 0 else a0)) - ((if ((if (0 : Int) > a0 then 0 else a0) : Int) < x22 then (if (0 : Int) > a0 then 0 else a0) else x22))) : Int) < x26 then IntKind.wrap .i64 (((if (0 : Int) > a0 then 0 else a0)) - ((if ((if (0 : Int) > a0 then 0 else a0) : Int) < x22 then (if (0 : Int) > a0 then 0 else a0) else x22))) else x26)))) r6.1.f_match else F9_j37 k ((if ((if (0 : Int) > a0 then 0 else a0) : Int) < x22 then (if (0 : Int) > a0 then 0 else a0) else x22)) (IntKind.wrap .i64 (((if ((if (0 : Int) > a0 then 0 else a0) : Int) < x22 then (if (0 : Int) > a0 then 0 else a0) else x22)) + ((if (IntKind.wrap .i64 (((if (0 : Int) > a0 then 0 else a0)) - ((if ((if (0 : Int) > a0 then 0 else a0) : Int) < x22 then (if (0 : Int) > a0 then 0 else a0) else x22))) : Int) < x26 then IntKind.wrap .i64 (((if (0 : Int) > a0 then 0 else a0)) - ((if ((if (0 : Int) > a0 then 0 else a0) : Int) < x22 then (if (0 : Int) > a0 then 0 else a0) else x22))) else x26)))) 0 r6.1.f_match)))))
set_option maxHeartbeats 8000000 in
theorem F9_ok {k : Nat} {a0 : Int} {a1 : List S} {r : TView_Page × Int} (hg : F9 k a0 a1 = some r) : Ret cfg 9 [AV.int .i64 a0, AV.L (a1.map AV.str)] (AV.tuple [TView_Page.av r.1, AV.int .i64 r.2]) := by
  unfold F9 at hg
  refine Ret.of_body rfl rfl Try.func9 rfl (by simp [strs, stripL_bytes, cleanL_bytes, headOk_bytes]) (by simp [strs, stripL_bytes, cleanL_bytes, headOk_bytes]) ?_
  obtain ⟨fr, hfr⟩ : ∃ fr, fr = [AV.int .i64 a0, AV.L (a1.map AV.str)] ++ List.replicate (Try.f9.ntmps - [AV.int .i64 a0, AV.L (a1.map AV.str)].length) AV.undef := ⟨_, rfl⟩
  rw [← hfr]
  have hl : fr.length = 81 := by rw [hfr]; rfl
  have s0 : slotAt fr 0 = some (AV.int .i64 a0) := by rw [hfr]; first | rfl | simp [aR_eq, aR_eq]
  have s1 : slotAt fr 1 = some (.list (a1.map AV.str) false none none) := by rw [hfr]; first | rfl | simp [aR_eq, aR_eq]
  clear hfr
  refine Ev.seq ?_
  refine Ev.region ?_
  refine EvOps.allocR (cs := [AV.int .i64 0, AV.int .i64 0, AV.int .i64 0, AV.str []]) rfl (by simp [hl, s0, s1, ofBytes_length, bytesOf_ofBytes, stripL_bytes, cleanL_bytes, headOk_bytes, strs, minsA, minA, sliceA, buildSliceA, buildA, structPlaces, fillA, splice, bytesOf, TView_asked.av, TView_Page.av, aR_eq, aR_eq]) Ty.z25 (by simp) (by simp) ?_
  intro h2 b1 ex
  have o_b1 := ex.get
  clear ex
  apply EvOps.keep (h' := h2) (d' := false) (fun fr => fr.length = 81 ∧ slotAt fr 0 = some (AV.int .i64 a0) ∧ slotAt fr 1 = some (.list (a1.map AV.str) false none none) ∧ slotAt fr 4 = some (AV.ptr b1 0))
  · intro call; simp [hl, s0, s1, o_b1, ofBytes_length, bytesOf_ofBytes, stripL_bytes, cleanL_bytes, headOk_bytes, strs, minsA, minA, sliceA, buildSliceA, buildA, structPlaces, fillA, splice, bytesOf, TView_asked.av, TView_Page.av, aR_eq, aR_eq]; exact rfl
  · exact ⟨by simp [hl], by simp [hl, s0, s1, o_b1, ofBytes_length, bytesOf_ofBytes, stripL_bytes, cleanL_bytes, headOk_bytes, strs, minsA, minA, sliceA, buildSliceA, buildA, structPlaces, fillA, splice, bytesOf, TView_asked.av, TView_Page.av, aR_eq, aR_eq], by simp [hl, s0, s1, o_b1, ofBytes_length, bytesOf_ofBytes, stripL_bytes, cleanL_bytes, headOk_bytes, strs, minsA, minA, sliceA, buildSliceA, buildA, structPlaces, fillA, splice, bytesOf, TView_asked.av, TView_Page.av, aR_eq, aR_eq], by simp [hl, s0, s1, o_b1, ofBytes_length, bytesOf_ofBytes, stripL_bytes, cleanL_bytes, headOk_bytes, strs, minsA, minA, sliceA, buildSliceA, buildA, structPlaces, fillA, splice, bytesOf, TView_asked.av, TView_Page.av, aR_eq, aR_eq]⟩
  clear hl s0 s1 fr
  rintro fr ⟨hl, s0, s1, s4⟩
  refine Ev.seq ?_
  refine Ev.seq ?_
  refine Ev.region ?_
  apply EvOps.keep (h' := h2) (d' := false) (fun fr => fr.length = 81 ∧ slotAt fr 0 = some (AV.int .i64 a0) ∧ slotAt fr 1 = some (.list (a1.map AV.str) false none none) ∧ slotAt fr 4 = some (AV.ptr b1 0) ∧ slotAt fr 12 = some (AV.bool ((((List.length a1 : Int) : Int) == 0))))
  · intro call; simp [hl, s0, s1, s4, o_b1, ofBytes_length, bytesOf_ofBytes, stripL_bytes, cleanL_bytes, headOk_bytes, strs, minsA, minA, sliceA, buildSliceA, buildA, structPlaces, fillA, splice, bytesOf, TView_asked.av, TView_Page.av, aR_eq, aR_eq]; exact rfl
  · exact ⟨by simp [hl], by simp [hl, s0, s1, s4, o_b1, ofBytes_length, bytesOf_ofBytes, stripL_bytes, cleanL_bytes, headOk_bytes, strs, minsA, minA, sliceA, buildSliceA, buildA, structPlaces, fillA, splice, bytesOf, TView_asked.av, TView_Page.av, aR_eq, aR_eq], by simp [hl, s0, s1, s4, o_b1, ofBytes_length, bytesOf_ofBytes, stripL_bytes, cleanL_bytes, headOk_bytes, strs, minsA, minA, sliceA, buildSliceA, buildA, structPlaces, fillA, splice, bytesOf, TView_asked.av, TView_Page.av, aR_eq, aR_eq], by simp [hl, s0, s1, s4, o_b1, ofBytes_length, bytesOf_ofBytes, stripL_bytes, cleanL_bytes, headOk_bytes, strs, minsA, minA, sliceA, buildSliceA, buildA, structPlaces, fillA, splice, bytesOf, TView_asked.av, TView_Page.av, aR_eq, aR_eq], by simp [hl, s0, s1, s4, o_b1, ofBytes_length, bytesOf_ofBytes, stripL_bytes, cleanL_bytes, headOk_bytes, strs, minsA, minA, sliceA, buildSliceA, buildA, structPlaces, fillA, splice, bytesOf, TView_asked.av, TView_Page.av, aR_eq, aR_eq]⟩
  clear hl s0 s1 s4 fr
  rintro fr ⟨hl, s0, s1, s4, s12⟩
  refine Ev.cond ((((List.length a1 : Int) : Int) == 0)) (by simp [hl, s0, s1, s4, s12, o_b1, ofBytes_length, bytesOf_ofBytes, stripL_bytes, cleanL_bytes, headOk_bytes, strs, minsA, minA, sliceA, buildSliceA, buildA, structPlaces, fillA, splice, bytesOf, TView_asked.av, TView_Page.av, aR_eq, aR_eq]) (fun h_3 => ?_) (fun h_3 => ?_)
  · rw [if_pos h_3] at hg
    refine Ev.seq ?_
    refine Ev.region ?_
    refine EvOps.take 1 ?_
    apply EvOps.run
    · intro call; simp [hl, s0, s1, s4, s12, o_b1, ofBytes_length, bytesOf_ofBytes, stripL_bytes, cleanL_bytes, headOk_bytes, strs, minsA, minA, sliceA, buildSliceA, buildA, structPlaces, fillA, splice, bytesOf, TView_asked.av, TView_Page.av, aR_eq, aR_eq]; exact rfl
    refine EvOps.storeR (b := b1) (off := 0) (vs := [AV.int .i64 0, AV.int .i64 0, AV.int .i64 0, AV.str []]) (cs' := [AV.int .i64 0, AV.int .i64 0, AV.int .i64 0, AV.str []]) rfl (by simp [hl, s0, s1, s4, s12, o_b1, ofBytes_length, bytesOf_ofBytes, stripL_bytes, cleanL_bytes, headOk_bytes, strs, minsA, minA, sliceA, buildSliceA, buildA, structPlaces, fillA, splice, bytesOf, TView_asked.av, TView_Page.av, aR_eq, aR_eq]) (by simp [hl, s0, s1, s4, s12, o_b1, ofBytes_length, bytesOf_ofBytes, stripL_bytes, cleanL_bytes, headOk_bytes, strs, minsA, minA, sliceA, buildSliceA, buildA, structPlaces, fillA, splice, bytesOf, TView_asked.av, TView_Page.av, aR_eq, aR_eq] <;> exact rfl) (by simp [hl, s0, s1, s4, s12, o_b1, ofBytes_length, bytesOf_ofBytes, stripL_bytes, cleanL_bytes, headOk_bytes, strs, minsA, minA, sliceA, buildSliceA, buildA, structPlaces, fillA, splice, bytesOf, TView_asked.av, TView_Page.av, aR_eq, aR_eq] <;> exact rfl) o_b1 (by simp [hl, s0, s1, s4, s12, o_b1, ofBytes_length, bytesOf_ofBytes, stripL_bytes, cleanL_bytes, headOk_bytes, strs, minsA, minA, sliceA, buildSliceA, buildA, structPlaces, fillA, splice, bytesOf, TView_asked.av, TView_Page.av, aR_eq, aR_eq]) (by simp) (by simp) (by simp [AV.one]) (by simp [splice]) ?_
    intro h4 up
    have o_b1 := up.get
    clear up
    apply EvOps.keep (h' := h4) (d' := false) (fun fr => fr.length = 81 ∧ slotAt fr 4 = some (AV.ptr b1 0) ∧ slotAt fr 5 = some (AV.int .i64 43))
    · intro call; simp [hl, s0, s1, s4, s12, o_b1, ofBytes_length, bytesOf_ofBytes, stripL_bytes, cleanL_bytes, headOk_bytes, strs, minsA, minA, sliceA, buildSliceA, buildA, structPlaces, fillA, splice, bytesOf, TView_asked.av, TView_Page.av, aR_eq, aR_eq]; exact rfl
    · exact ⟨by simp [hl], by simp [hl, s0, s1, s4, s12, o_b1, ofBytes_length, bytesOf_ofBytes, stripL_bytes, cleanL_bytes, headOk_bytes, strs, minsA, minA, sliceA, buildSliceA, buildA, structPlaces, fillA, splice, bytesOf, TView_asked.av, TView_Page.av, aR_eq, aR_eq], by simp [hl, s0, s1, s4, s12, o_b1, ofBytes_length, bytesOf_ofBytes, stripL_bytes, cleanL_bytes, headOk_bytes, strs, minsA, minA, sliceA, buildSliceA, buildA, structPlaces, fillA, splice, bytesOf, TView_asked.av, TView_Page.av, aR_eq, aR_eq]⟩
    clear hl s0 s1 s4 s12 fr
    rintro fr ⟨hl, s4, s5⟩
    refine Ev.ret ?_
    have hs := Option.some.inj hg; subst hs
    exact ⟨AV.tuple [AV.agg [AV.int .i64 0, AV.int .i64 0, AV.int .i64 0, AV.str []], AV.int .i64 43], by simp [Try.f9, hl, s4, s5, o_b1, ofBytes_length, bytesOf_ofBytes, stripL_bytes, cleanL_bytes, headOk_bytes, strs, minsA, minA, sliceA, buildSliceA, buildA, structPlaces, fillA, splice, bytesOf, TView_asked.av, TView_Page.av, aR_eq, aR_eq] <;> exact rfl, by simp [strs, TView_asked.av, TView_Page.av, aR_eq, aR_eq]⟩
  · rw [if_neg (by rw [h_3]; simp)] at hg
    refine Ev.skip ?_
    refine Ev.seq ?_
    refine Ev.region ?_
    obtain ⟨u5, eu5, hg⟩ := bind_some hg
    have eu5 := chk_some eu5
    have yeu5 := eu5
    try simp at yeu5
    obtain ⟨r6, er6, hg⟩ := bind_some hg
    refine EvOps.take 2 ?_
    apply EvOps.run
    · intro call; simp [hl, s0, s1, s4, s12, o_b1, eu5, yeu5, ofBytes_length, bytesOf_ofBytes, stripL_bytes, cleanL_bytes, headOk_bytes, strs, minsA, minA, sliceA, buildSliceA, buildA, structPlaces, fillA, splice, bytesOf, TView_asked.av, TView_Page.av, aR_eq, aR_eq]; exact rfl
    refine EvOps.call rfl (by simp [hl, s0, s1, s4, s12, o_b1, eu5, yeu5, ofBytes_length, bytesOf_ofBytes, stripL_bytes, cleanL_bytes, headOk_bytes, strs, minsA, minA, sliceA, buildSliceA, buildA, structPlaces, fillA, splice, bytesOf, TView_asked.av, TView_Page.av, aR_eq, aR_eq]) (by simp [hl, s0, s1, s4, s12, o_b1, eu5, yeu5, ofBytes_length, bytesOf_ofBytes, stripL_bytes, cleanL_bytes, headOk_bytes, strs, minsA, minA, sliceA, buildSliceA, buildA, structPlaces, fillA, splice, bytesOf, TView_asked.av, TView_Page.av, aR_eq, aR_eq] <;> exact rfl) (by simp [hl, s0, s1, s4, s12, o_b1, eu5, yeu5, ofBytes_length, bytesOf_ofBytes, stripL_bytes, cleanL_bytes, headOk_bytes, strs, minsA, minA, sliceA, buildSliceA, buildA, structPlaces, fillA, splice, bytesOf, TView_asked.av, TView_Page.av, aR_eq, aR_eq] <;> exact rfl) (F36_ok er6) ?_
    refine EvOps.take 3 ?_
    apply EvOps.run
    · intro call; simp [hl, s0, s1, s4, s12, o_b1, eu5, yeu5, ofBytes_length, bytesOf_ofBytes, stripL_bytes, cleanL_bytes, headOk_bytes, strs, minsA, minA, sliceA, buildSliceA, buildA, structPlaces, fillA, splice, bytesOf, TView_asked.av, TView_Page.av, aR_eq, aR_eq]; exact rfl
    refine EvOps.allocR (cs := [AV.str [], AV.str [], AV.bool false, AV.bool false]) rfl (by simp [hl, s0, s1, s4, s12, o_b1, eu5, yeu5, ofBytes_length, bytesOf_ofBytes, stripL_bytes, cleanL_bytes, headOk_bytes, strs, minsA, minA, sliceA, buildSliceA, buildA, structPlaces, fillA, splice, bytesOf, TView_asked.av, TView_Page.av, aR_eq, aR_eq]) Ty.z100 (by simp) (by simp) ?_
    intro h8 b7 ex
    have o_b7 := ex.get
    have n_b1_b7 := ex.ne _ _ o_b1
    have o_b1 := ex.old _ _ o_b1
    clear ex
    refine EvOps.storeR (b := b7) (off := 0) (vs := [AV.str r6.1.f_match, AV.str r6.1.f_count, AV.bool r6.1.f_matched, AV.bool r6.1.f_counted]) (cs' := [AV.str r6.1.f_match, AV.str r6.1.f_count, AV.bool r6.1.f_matched, AV.bool r6.1.f_counted]) rfl (by simp [hl, s0, s1, s4, s12, o_b1, o_b7, eu5, yeu5, ofBytes_length, bytesOf_ofBytes, stripL_bytes, cleanL_bytes, headOk_bytes, strs, minsA, minA, sliceA, buildSliceA, buildA, structPlaces, fillA, splice, bytesOf, TView_asked.av, TView_Page.av, aR_eq, aR_eq]) (by simp [hl, s0, s1, s4, s12, o_b1, o_b7, eu5, yeu5, ofBytes_length, bytesOf_ofBytes, stripL_bytes, cleanL_bytes, headOk_bytes, strs, minsA, minA, sliceA, buildSliceA, buildA, structPlaces, fillA, splice, bytesOf, TView_asked.av, TView_Page.av, aR_eq, aR_eq] <;> exact rfl) (by simp [hl, s0, s1, s4, s12, o_b1, o_b7, eu5, yeu5, ofBytes_length, bytesOf_ofBytes, stripL_bytes, cleanL_bytes, headOk_bytes, strs, minsA, minA, sliceA, buildSliceA, buildA, structPlaces, fillA, splice, bytesOf, TView_asked.av, TView_Page.av, aR_eq, aR_eq] <;> exact rfl) o_b7 (by simp [hl, s0, s1, s4, s12, o_b1, o_b7, eu5, yeu5, ofBytes_length, bytesOf_ofBytes, stripL_bytes, cleanL_bytes, headOk_bytes, strs, minsA, minA, sliceA, buildSliceA, buildA, structPlaces, fillA, splice, bytesOf, TView_asked.av, TView_Page.av, aR_eq, aR_eq]) (by simp) (by simp) (by simp [AV.one]) (by simp [splice]) ?_
    intro h9 up
    have o_b1 := up.cells o_b1 n_b1_b7
    have o_b7 := up.get
    clear up
    apply EvOps.keep (h' := h9) (d' := false) (fun fr => fr.length = 81 ∧ slotAt fr 0 = some (AV.int .i64 a0) ∧ slotAt fr 1 = some (.list (a1.map AV.str) false none none) ∧ slotAt fr 4 = some (AV.ptr b1 0) ∧ slotAt fr 6 = some (AV.ptr b7 0) ∧ slotAt fr 7 = some (AV.int .i64 r6.2))
    · intro call; simp [hl, s0, s1, s4, s12, o_b1, o_b7, eu5, yeu5, ofBytes_length, bytesOf_ofBytes, stripL_bytes, cleanL_bytes, headOk_bytes, strs, minsA, minA, sliceA, buildSliceA, buildA, structPlaces, fillA, splice, bytesOf, TView_asked.av, TView_Page.av, aR_eq, aR_eq]; exact rfl
    · exact ⟨by simp [hl], by simp [hl, s0, s1, s4, s12, o_b1, o_b7, eu5, yeu5, ofBytes_length, bytesOf_ofBytes, stripL_bytes, cleanL_bytes, headOk_bytes, strs, minsA, minA, sliceA, buildSliceA, buildA, structPlaces, fillA, splice, bytesOf, TView_asked.av, TView_Page.av, aR_eq, aR_eq], by simp [hl, s0, s1, s4, s12, o_b1, o_b7, eu5, yeu5, ofBytes_length, bytesOf_ofBytes, stripL_bytes, cleanL_bytes, headOk_bytes, strs, minsA, minA, sliceA, buildSliceA, buildA, structPlaces, fillA, splice, bytesOf, TView_asked.av, TView_Page.av, aR_eq, aR_eq], by simp [hl, s0, s1, s4, s12, o_b1, o_b7, eu5, yeu5, ofBytes_length, bytesOf_ofBytes, stripL_bytes, cleanL_bytes, headOk_bytes, strs, minsA, minA, sliceA, buildSliceA, buildA, structPlaces, fillA, splice, bytesOf, TView_asked.av, TView_Page.av, aR_eq, aR_eq], by simp [hl, s0, s1, s4, s12, o_b1, o_b7, eu5, yeu5, ofBytes_length, bytesOf_ofBytes, stripL_bytes, cleanL_bytes, headOk_bytes, strs, minsA, minA, sliceA, buildSliceA, buildA, structPlaces, fillA, splice, bytesOf, TView_asked.av, TView_Page.av, aR_eq, aR_eq], by simp [hl, s0, s1, s4, s12, o_b1, o_b7, eu5, yeu5, ofBytes_length, bytesOf_ofBytes, stripL_bytes, cleanL_bytes, headOk_bytes, strs, minsA, minA, sliceA, buildSliceA, buildA, structPlaces, fillA, splice, bytesOf, TView_asked.av, TView_Page.av, aR_eq, aR_eq]⟩
    clear hl s0 s1 s4 s12 fr
    rintro fr ⟨hl, s0, s1, s4, s6, s7⟩
    refine Ev.seq ?_
    refine Ev.seq ?_
    refine Ev.region ?_
    apply EvOps.keep (h' := h9) (d' := false) (fun fr => fr.length = 81 ∧ slotAt fr 0 = some (AV.int .i64 a0) ∧ slotAt fr 1 = some (.list (a1.map AV.str) false none none) ∧ slotAt fr 4 = some (AV.ptr b1 0) ∧ slotAt fr 6 = some (AV.ptr b7 0) ∧ slotAt fr 7 = some (AV.int .i64 r6.2) ∧ slotAt fr 21 = some (AV.bool (((r6.2 : Int) != 0))))
    · intro call; simp [hl, s0, s1, s4, s6, s7, o_b1, o_b7, ofBytes_length, bytesOf_ofBytes, stripL_bytes, cleanL_bytes, headOk_bytes, strs, minsA, minA, sliceA, buildSliceA, buildA, structPlaces, fillA, splice, bytesOf, TView_asked.av, TView_Page.av, aR_eq, aR_eq]; exact rfl
    · exact ⟨by simp [hl], by simp [hl, s0, s1, s4, s6, s7, o_b1, o_b7, ofBytes_length, bytesOf_ofBytes, stripL_bytes, cleanL_bytes, headOk_bytes, strs, minsA, minA, sliceA, buildSliceA, buildA, structPlaces, fillA, splice, bytesOf, TView_asked.av, TView_Page.av, aR_eq, aR_eq], by simp [hl, s0, s1, s4, s6, s7, o_b1, o_b7, ofBytes_length, bytesOf_ofBytes, stripL_bytes, cleanL_bytes, headOk_bytes, strs, minsA, minA, sliceA, buildSliceA, buildA, structPlaces, fillA, splice, bytesOf, TView_asked.av, TView_Page.av, aR_eq, aR_eq], by simp [hl, s0, s1, s4, s6, s7, o_b1, o_b7, ofBytes_length, bytesOf_ofBytes, stripL_bytes, cleanL_bytes, headOk_bytes, strs, minsA, minA, sliceA, buildSliceA, buildA, structPlaces, fillA, splice, bytesOf, TView_asked.av, TView_Page.av, aR_eq, aR_eq], by simp [hl, s0, s1, s4, s6, s7, o_b1, o_b7, ofBytes_length, bytesOf_ofBytes, stripL_bytes, cleanL_bytes, headOk_bytes, strs, minsA, minA, sliceA, buildSliceA, buildA, structPlaces, fillA, splice, bytesOf, TView_asked.av, TView_Page.av, aR_eq, aR_eq], by simp [hl, s0, s1, s4, s6, s7, o_b1, o_b7, ofBytes_length, bytesOf_ofBytes, stripL_bytes, cleanL_bytes, headOk_bytes, strs, minsA, minA, sliceA, buildSliceA, buildA, structPlaces, fillA, splice, bytesOf, TView_asked.av, TView_Page.av, aR_eq, aR_eq], by simp [hl, s0, s1, s4, s6, s7, o_b1, o_b7, ofBytes_length, bytesOf_ofBytes, stripL_bytes, cleanL_bytes, headOk_bytes, strs, minsA, minA, sliceA, buildSliceA, buildA, structPlaces, fillA, splice, bytesOf, TView_asked.av, TView_Page.av, aR_eq, aR_eq]⟩
    clear hl s0 s1 s4 s6 s7 fr
    rintro fr ⟨hl, s0, s1, s4, s6, s7, s21⟩
    refine Ev.cond (((r6.2 : Int) != 0)) (by simp [hl, s0, s1, s4, s6, s7, s21, o_b1, o_b7, ofBytes_length, bytesOf_ofBytes, stripL_bytes, cleanL_bytes, headOk_bytes, strs, minsA, minA, sliceA, buildSliceA, buildA, structPlaces, fillA, splice, bytesOf, TView_asked.av, TView_Page.av, aR_eq, aR_eq]) (fun h_10 => ?_) (fun h_10 => ?_)
    · rw [if_pos h_10] at hg
      refine Ev.seq ?_
      refine Ev.region ?_
      refine EvOps.take 2 ?_
      apply EvOps.run
      · intro call; simp [hl, s0, s1, s4, s6, s7, s21, o_b1, o_b7, ofBytes_length, bytesOf_ofBytes, stripL_bytes, cleanL_bytes, headOk_bytes, strs, minsA, minA, sliceA, buildSliceA, buildA, structPlaces, fillA, splice, bytesOf, TView_asked.av, TView_Page.av, aR_eq, aR_eq]; exact rfl
      refine EvOps.storeR (b := b1) (off := 0) (vs := [AV.int .i64 0, AV.int .i64 0, AV.int .i64 0, AV.str []]) (cs' := [AV.int .i64 0, AV.int .i64 0, AV.int .i64 0, AV.str []]) rfl (by simp [hl, s0, s1, s4, s6, s7, s21, o_b1, o_b7, ofBytes_length, bytesOf_ofBytes, stripL_bytes, cleanL_bytes, headOk_bytes, strs, minsA, minA, sliceA, buildSliceA, buildA, structPlaces, fillA, splice, bytesOf, TView_asked.av, TView_Page.av, aR_eq, aR_eq]) (by simp [hl, s0, s1, s4, s6, s7, s21, o_b1, o_b7, ofBytes_length, bytesOf_ofBytes, stripL_bytes, cleanL_bytes, headOk_bytes, strs, minsA, minA, sliceA, buildSliceA, buildA, structPlaces, fillA, splice, bytesOf, TView_asked.av, TView_Page.av, aR_eq, aR_eq] <;> exact rfl) (by simp [hl, s0, s1, s4, s6, s7, s21, o_b1, o_b7, ofBytes_length, bytesOf_ofBytes, stripL_bytes, cleanL_bytes, headOk_bytes, strs, minsA, minA, sliceA, buildSliceA, buildA, structPlaces, fillA, splice, bytesOf, TView_asked.av, TView_Page.av, aR_eq, aR_eq] <;> exact rfl) o_b1 (by simp [hl, s0, s1, s4, s6, s7, s21, o_b1, o_b7, ofBytes_length, bytesOf_ofBytes, stripL_bytes, cleanL_bytes, headOk_bytes, strs, minsA, minA, sliceA, buildSliceA, buildA, structPlaces, fillA, splice, bytesOf, TView_asked.av, TView_Page.av, aR_eq, aR_eq]) (by simp) (by simp) (by simp [AV.one]) (by simp [splice]) ?_
      intro h11 up
      have o_b7 := up.cells o_b7 (Ne.symm n_b1_b7)
      have o_b1 := up.get
      clear up
      apply EvOps.keep (h' := h11) (d' := false) (fun fr => fr.length = 81 ∧ slotAt fr 4 = some (AV.ptr b1 0) ∧ slotAt fr 5 = some (AV.int .i64 r6.2))
      · intro call; simp [hl, s0, s1, s4, s6, s7, s21, o_b1, o_b7, ofBytes_length, bytesOf_ofBytes, stripL_bytes, cleanL_bytes, headOk_bytes, strs, minsA, minA, sliceA, buildSliceA, buildA, structPlaces, fillA, splice, bytesOf, TView_asked.av, TView_Page.av, aR_eq, aR_eq]; exact rfl
      · exact ⟨by simp [hl], by simp [hl, s0, s1, s4, s6, s7, s21, o_b1, o_b7, ofBytes_length, bytesOf_ofBytes, stripL_bytes, cleanL_bytes, headOk_bytes, strs, minsA, minA, sliceA, buildSliceA, buildA, structPlaces, fillA, splice, bytesOf, TView_asked.av, TView_Page.av, aR_eq, aR_eq], by simp [hl, s0, s1, s4, s6, s7, s21, o_b1, o_b7, ofBytes_length, bytesOf_ofBytes, stripL_bytes, cleanL_bytes, headOk_bytes, strs, minsA, minA, sliceA, buildSliceA, buildA, structPlaces, fillA, splice, bytesOf, TView_asked.av, TView_Page.av, aR_eq, aR_eq]⟩
      clear hl s0 s1 s4 s6 s7 s21 fr
      rintro fr ⟨hl, s4, s5⟩
      refine Ev.ret ?_
      have hs := Option.some.inj hg; subst hs
      exact ⟨AV.tuple [AV.agg [AV.int .i64 0, AV.int .i64 0, AV.int .i64 0, AV.str []], AV.int .i64 r6.2], by simp [Try.f9, hl, s4, s5, o_b1, o_b7, ofBytes_length, bytesOf_ofBytes, stripL_bytes, cleanL_bytes, headOk_bytes, strs, minsA, minA, sliceA, buildSliceA, buildA, structPlaces, fillA, splice, bytesOf, TView_asked.av, TView_Page.av, aR_eq, aR_eq] <;> exact rfl, by simp [strs, TView_asked.av, TView_Page.av, aR_eq, aR_eq]⟩
    · rw [if_neg (by rw [h_10]; simp)] at hg
      refine Ev.skip ?_
      refine Ev.seq ?_
      refine Ev.region ?_
      obtain ⟨x12, ex12, hg⟩ := bind_some hg
      obtain ⟨ex12a, ex12b, ex12c, ex12d⟩ := getAt_some ex12
      have yex12b := ex12b
      try simp at yex12b
      have yex12d := ex12d
      try simp at yex12d
      have kx12 : a1[0]? = some x12 := ex12c
      have lx12 : ∀ h : 0 < List.length a1, a1[0]'h = x12 := ex12d
      obtain ⟨r13, er13, hg⟩ := bind_some hg
      refine EvOps.take 6 ?_
      apply EvOps.run
      · intro call; simp [hl, s0, s1, s4, s6, s7, s21, o_b1, o_b7, ex12a, ex12b, ex12c, ex12d, yex12b, yex12d, kx12, lx12, ofBytes_length, bytesOf_ofBytes, stripL_bytes, cleanL_bytes, headOk_bytes, strs, minsA, minA, sliceA, buildSliceA, buildA, structPlaces, fillA, splice, bytesOf, TView_asked.av, TView_Page.av, aR_eq, aR_eq]; exact rfl
      refine EvOps.call rfl (by simp [hl, s0, s1, s4, s6, s7, s21, o_b1, o_b7, ex12a, ex12b, ex12c, ex12d, yex12b, yex12d, kx12, lx12, ofBytes_length, bytesOf_ofBytes, stripL_bytes, cleanL_bytes, headOk_bytes, strs, minsA, minA, sliceA, buildSliceA, buildA, structPlaces, fillA, splice, bytesOf, TView_asked.av, TView_Page.av, aR_eq, aR_eq]) (by simp [hl, s0, s1, s4, s6, s7, s21, o_b1, o_b7, ex12a, ex12b, ex12c, ex12d, yex12b, yex12d, kx12, lx12, ofBytes_length, bytesOf_ofBytes, stripL_bytes, cleanL_bytes, headOk_bytes, strs, minsA, minA, sliceA, buildSliceA, buildA, structPlaces, fillA, splice, bytesOf, TView_asked.av, TView_Page.av, aR_eq, aR_eq] <;> exact rfl) (by simp [hl, s0, s1, s4, s6, s7, s21, o_b1, o_b7, ex12a, ex12b, ex12c, ex12d, yex12b, yex12d, kx12, lx12, ofBytes_length, bytesOf_ofBytes, stripL_bytes, cleanL_bytes, headOk_bytes, strs, minsA, minA, sliceA, buildSliceA, buildA, structPlaces, fillA, splice, bytesOf, TView_asked.av, TView_Page.av, aR_eq, aR_eq] <;> exact rfl) (F37_ok er13) ?_
      apply EvOps.keep (h' := h9) (d' := false) (fun fr => fr.length = 81 ∧ slotAt fr 0 = some (AV.int .i64 a0) ∧ slotAt fr 4 = some (AV.ptr b1 0) ∧ slotAt fr 6 = some (AV.ptr b7 0) ∧ slotAt fr 7 = some (AV.int .i64 r13.2) ∧ slotAt fr 8 = some (.list (r13.1.map (AV.int .i64)) false none none))
      · intro call; simp [hl, s0, s1, s4, s6, s7, s21, o_b1, o_b7, ex12a, ex12b, ex12c, ex12d, yex12b, yex12d, kx12, lx12, ofBytes_length, bytesOf_ofBytes, stripL_bytes, cleanL_bytes, headOk_bytes, strs, minsA, minA, sliceA, buildSliceA, buildA, structPlaces, fillA, splice, bytesOf, TView_asked.av, TView_Page.av, aR_eq, aR_eq]; exact rfl
      · exact ⟨by simp [hl], by simp [hl, s0, s1, s4, s6, s7, s21, o_b1, o_b7, ex12a, ex12b, ex12c, ex12d, yex12b, yex12d, kx12, lx12, ofBytes_length, bytesOf_ofBytes, stripL_bytes, cleanL_bytes, headOk_bytes, strs, minsA, minA, sliceA, buildSliceA, buildA, structPlaces, fillA, splice, bytesOf, TView_asked.av, TView_Page.av, aR_eq, aR_eq], by simp [hl, s0, s1, s4, s6, s7, s21, o_b1, o_b7, ex12a, ex12b, ex12c, ex12d, yex12b, yex12d, kx12, lx12, ofBytes_length, bytesOf_ofBytes, stripL_bytes, cleanL_bytes, headOk_bytes, strs, minsA, minA, sliceA, buildSliceA, buildA, structPlaces, fillA, splice, bytesOf, TView_asked.av, TView_Page.av, aR_eq, aR_eq], by simp [hl, s0, s1, s4, s6, s7, s21, o_b1, o_b7, ex12a, ex12b, ex12c, ex12d, yex12b, yex12d, kx12, lx12, ofBytes_length, bytesOf_ofBytes, stripL_bytes, cleanL_bytes, headOk_bytes, strs, minsA, minA, sliceA, buildSliceA, buildA, structPlaces, fillA, splice, bytesOf, TView_asked.av, TView_Page.av, aR_eq, aR_eq], by simp [hl, s0, s1, s4, s6, s7, s21, o_b1, o_b7, ex12a, ex12b, ex12c, ex12d, yex12b, yex12d, kx12, lx12, ofBytes_length, bytesOf_ofBytes, stripL_bytes, cleanL_bytes, headOk_bytes, strs, minsA, minA, sliceA, buildSliceA, buildA, structPlaces, fillA, splice, bytesOf, TView_asked.av, TView_Page.av, aR_eq, aR_eq], by simp [hl, s0, s1, s4, s6, s7, s21, o_b1, o_b7, ex12a, ex12b, ex12c, ex12d, yex12b, yex12d, kx12, lx12, ofBytes_length, bytesOf_ofBytes, stripL_bytes, cleanL_bytes, headOk_bytes, strs, minsA, minA, sliceA, buildSliceA, buildA, structPlaces, fillA, splice, bytesOf, TView_asked.av, TView_Page.av, aR_eq, aR_eq]⟩
      clear hl s0 s1 s4 s6 s7 s21 fr
      rintro fr ⟨hl, s0, s4, s6, s7, s8⟩
      refine Ev.seq ?_
      refine Ev.block ?_
      refine Ev.seq ?_
      refine Ev.region ?_
      apply EvOps.keep (h' := h9) (d' := false) (fun fr => fr.length = 81 ∧ slotAt fr 0 = some (AV.int .i64 a0) ∧ slotAt fr 4 = some (AV.ptr b1 0) ∧ slotAt fr 6 = some (AV.ptr b7 0) ∧ slotAt fr 7 = some (AV.int .i64 r13.2) ∧ slotAt fr 8 = some (.list (r13.1.map (AV.int .i64)) false none none) ∧ slotAt fr 34 = some (AV.bool (((r13.2 : Int) != 0))))
      · intro call; simp [hl, s0, s4, s6, s7, s8, o_b1, o_b7, ofBytes_length, bytesOf_ofBytes, stripL_bytes, cleanL_bytes, headOk_bytes, strs, minsA, minA, sliceA, buildSliceA, buildA, structPlaces, fillA, splice, bytesOf, TView_asked.av, TView_Page.av, aR_eq, aR_eq]; exact rfl
      · exact ⟨by simp [hl], by simp [hl, s0, s4, s6, s7, s8, o_b1, o_b7, ofBytes_length, bytesOf_ofBytes, stripL_bytes, cleanL_bytes, headOk_bytes, strs, minsA, minA, sliceA, buildSliceA, buildA, structPlaces, fillA, splice, bytesOf, TView_asked.av, TView_Page.av, aR_eq, aR_eq], by simp [hl, s0, s4, s6, s7, s8, o_b1, o_b7, ofBytes_length, bytesOf_ofBytes, stripL_bytes, cleanL_bytes, headOk_bytes, strs, minsA, minA, sliceA, buildSliceA, buildA, structPlaces, fillA, splice, bytesOf, TView_asked.av, TView_Page.av, aR_eq, aR_eq], by simp [hl, s0, s4, s6, s7, s8, o_b1, o_b7, ofBytes_length, bytesOf_ofBytes, stripL_bytes, cleanL_bytes, headOk_bytes, strs, minsA, minA, sliceA, buildSliceA, buildA, structPlaces, fillA, splice, bytesOf, TView_asked.av, TView_Page.av, aR_eq, aR_eq], by simp [hl, s0, s4, s6, s7, s8, o_b1, o_b7, ofBytes_length, bytesOf_ofBytes, stripL_bytes, cleanL_bytes, headOk_bytes, strs, minsA, minA, sliceA, buildSliceA, buildA, structPlaces, fillA, splice, bytesOf, TView_asked.av, TView_Page.av, aR_eq, aR_eq], by simp [hl, s0, s4, s6, s7, s8, o_b1, o_b7, ofBytes_length, bytesOf_ofBytes, stripL_bytes, cleanL_bytes, headOk_bytes, strs, minsA, minA, sliceA, buildSliceA, buildA, structPlaces, fillA, splice, bytesOf, TView_asked.av, TView_Page.av, aR_eq, aR_eq], by simp [hl, s0, s4, s6, s7, s8, o_b1, o_b7, ofBytes_length, bytesOf_ofBytes, stripL_bytes, cleanL_bytes, headOk_bytes, strs, minsA, minA, sliceA, buildSliceA, buildA, structPlaces, fillA, splice, bytesOf, TView_asked.av, TView_Page.av, aR_eq, aR_eq]⟩
      clear hl s0 s4 s6 s7 s8 fr
      rintro fr ⟨hl, s0, s4, s6, s7, s8, s34⟩
      refine Ev.cond (((r13.2 : Int) != 0)) (by simp [hl, s0, s4, s6, s7, s8, s34, o_b1, o_b7, ofBytes_length, bytesOf_ofBytes, stripL_bytes, cleanL_bytes, headOk_bytes, strs, minsA, minA, sliceA, buildSliceA, buildA, structPlaces, fillA, splice, bytesOf, TView_asked.av, TView_Page.av, aR_eq, aR_eq]) (fun h_14 => ?_) (fun h_14 => ?_)
      · rw [if_pos h_14] at hg
        refine Ev.seq ?_
        refine Ev.region ?_
        refine EvOps.take 2 ?_
        apply EvOps.run
        · intro call; simp [hl, s0, s4, s6, s7, s8, s34, o_b1, o_b7, ofBytes_length, bytesOf_ofBytes, stripL_bytes, cleanL_bytes, headOk_bytes, strs, minsA, minA, sliceA, buildSliceA, buildA, structPlaces, fillA, splice, bytesOf, TView_asked.av, TView_Page.av, aR_eq, aR_eq]; exact rfl
        refine EvOps.storeR (b := b1) (off := 0) (vs := [AV.int .i64 0, AV.int .i64 0, AV.int .i64 0, AV.str []]) (cs' := [AV.int .i64 0, AV.int .i64 0, AV.int .i64 0, AV.str []]) rfl (by simp [hl, s0, s4, s6, s7, s8, s34, o_b1, o_b7, ofBytes_length, bytesOf_ofBytes, stripL_bytes, cleanL_bytes, headOk_bytes, strs, minsA, minA, sliceA, buildSliceA, buildA, structPlaces, fillA, splice, bytesOf, TView_asked.av, TView_Page.av, aR_eq, aR_eq]) (by simp [hl, s0, s4, s6, s7, s8, s34, o_b1, o_b7, ofBytes_length, bytesOf_ofBytes, stripL_bytes, cleanL_bytes, headOk_bytes, strs, minsA, minA, sliceA, buildSliceA, buildA, structPlaces, fillA, splice, bytesOf, TView_asked.av, TView_Page.av, aR_eq, aR_eq] <;> exact rfl) (by simp [hl, s0, s4, s6, s7, s8, s34, o_b1, o_b7, ofBytes_length, bytesOf_ofBytes, stripL_bytes, cleanL_bytes, headOk_bytes, strs, minsA, minA, sliceA, buildSliceA, buildA, structPlaces, fillA, splice, bytesOf, TView_asked.av, TView_Page.av, aR_eq, aR_eq] <;> exact rfl) o_b1 (by simp [hl, s0, s4, s6, s7, s8, s34, o_b1, o_b7, ofBytes_length, bytesOf_ofBytes, stripL_bytes, cleanL_bytes, headOk_bytes, strs, minsA, minA, sliceA, buildSliceA, buildA, structPlaces, fillA, splice, bytesOf, TView_asked.av, TView_Page.av, aR_eq, aR_eq]) (by simp) (by simp) (by simp [AV.one]) (by simp [splice]) ?_
        intro h15 up
        have o_b7 := up.cells o_b7 (Ne.symm n_b1_b7)
        have o_b1 := up.get
        clear up
        apply EvOps.keep (h' := h15) (d' := false) (fun fr => fr.length = 81 ∧ slotAt fr 4 = some (AV.ptr b1 0) ∧ slotAt fr 5 = some (AV.int .i64 r13.2))
        · intro call; simp [hl, s0, s4, s6, s7, s8, s34, o_b1, o_b7, ofBytes_length, bytesOf_ofBytes, stripL_bytes, cleanL_bytes, headOk_bytes, strs, minsA, minA, sliceA, buildSliceA, buildA, structPlaces, fillA, splice, bytesOf, TView_asked.av, TView_Page.av, aR_eq, aR_eq]; exact rfl
        · exact ⟨by simp [hl], by simp [hl, s0, s4, s6, s7, s8, s34, o_b1, o_b7, ofBytes_length, bytesOf_ofBytes, stripL_bytes, cleanL_bytes, headOk_bytes, strs, minsA, minA, sliceA, buildSliceA, buildA, structPlaces, fillA, splice, bytesOf, TView_asked.av, TView_Page.av, aR_eq, aR_eq], by simp [hl, s0, s4, s6, s7, s8, s34, o_b1, o_b7, ofBytes_length, bytesOf_ofBytes, stripL_bytes, cleanL_bytes, headOk_bytes, strs, minsA, minA, sliceA, buildSliceA, buildA, structPlaces, fillA, splice, bytesOf, TView_asked.av, TView_Page.av, aR_eq, aR_eq]⟩
        clear hl s0 s4 s6 s7 s8 s34 fr
        rintro fr ⟨hl, s4, s5⟩
        refine Ev.ret ?_
        have hs := Option.some.inj hg; subst hs
        exact ⟨AV.tuple [AV.agg [AV.int .i64 0, AV.int .i64 0, AV.int .i64 0, AV.str []], AV.int .i64 r13.2], by simp [Try.f9, hl, s4, s5, o_b1, o_b7, ofBytes_length, bytesOf_ofBytes, stripL_bytes, cleanL_bytes, headOk_bytes, strs, minsA, minA, sliceA, buildSliceA, buildA, structPlaces, fillA, splice, bytesOf, TView_asked.av, TView_Page.av, aR_eq, aR_eq] <;> exact rfl, by simp [strs, TView_asked.av, TView_Page.av, aR_eq, aR_eq]⟩
      · rw [if_neg (by rw [h_14]; simp)] at hg
        refine Ev.seq ?_
        refine Ev.region ?_
        obtain ⟨x16, ex16, hg⟩ := bind_some hg
        obtain ⟨ex16a, ex16b, ex16c, ex16d⟩ := getAt_some ex16
        have yex16b := ex16b
        try simp at yex16b
        have yex16d := ex16d
        try simp at yex16d
        have kx16 : r13.1[0]? = some x16 := ex16c
        have lx16 : ∀ h : 0 < List.length r13.1, r13.1[0]'h = x16 := ex16d
        obtain ⟨q18, eq18, hg⟩ := bind_some hg
        refine EvOps.mono (Q := fun st => ∃ fr, st = ⟨fr, h9, false⟩ ∧ fr.length = 81 ∧ slotAt fr 0 = some (AV.int .i64 a0) ∧ slotAt fr 4 = some (AV.ptr b1 0) ∧ slotAt fr 6 = some (AV.ptr b7 0) ∧ slotAt fr 8 = some (.list (r13.1.map (AV.int .i64)) false none none) ∧ slotAt fr 39 = some (AV.bool q18)) ?_ ?_
        · refine EvOps.mid 10 (fun st => ∃ fr, st = ⟨fr, h9, false⟩ ∧ fr.length = 81 ∧ slotAt fr 0 = some (AV.int .i64 a0) ∧ slotAt fr 4 = some (AV.ptr b1 0) ∧ slotAt fr 6 = some (AV.ptr b7 0) ∧ slotAt fr 8 = some (.list (r13.1.map (AV.int .i64)) false none none) ∧ slotAt fr 49 = some (AV.bool q18)) ?_ ?_
          · refine EvOps.take 5 ?_
            apply EvOps.run
            · intro call; simp [hl, s0, s4, s6, s7, s8, s34, o_b1, o_b7, ex16a, ex16b, ex16c, ex16d, yex16b, yex16d, kx16, lx16, ofBytes_length, bytesOf_ofBytes, stripL_bytes, cleanL_bytes, headOk_bytes, strs, minsA, minA, sliceA, buildSliceA, buildA, structPlaces, fillA, splice, bytesOf, TView_asked.av, TView_Page.av, aR_eq, aR_eq]; exact rfl
            refine EvOps.gen (fun fr => fr.length = 81 ∧ slotAt fr 0 = some (AV.int .i64 a0) ∧ slotAt fr 4 = some (AV.ptr b1 0) ∧ slotAt fr 6 = some (AV.ptr b7 0) ∧ slotAt fr 8 = some (.list (r13.1.map (AV.int .i64)) false none none) ∧ slotAt fr 44 = some (AV.bool (decide ((x16 : Int) < 0)))) ⟨by simp [hl], by simp [hl, s0, s4, s6, s7, s8, s34, o_b1, o_b7, ex16a, ex16b, ex16c, ex16d, yex16b, yex16d, kx16, lx16, ofBytes_length, bytesOf_ofBytes, stripL_bytes, cleanL_bytes, headOk_bytes, strs, minsA, minA, sliceA, buildSliceA, buildA, structPlaces, fillA, splice, bytesOf, TView_asked.av, TView_Page.av, aR_eq, aR_eq], by simp [hl, s0, s4, s6, s7, s8, s34, o_b1, o_b7, ex16a, ex16b, ex16c, ex16d, yex16b, yex16d, kx16, lx16, ofBytes_length, bytesOf_ofBytes, stripL_bytes, cleanL_bytes, headOk_bytes, strs, minsA, minA, sliceA, buildSliceA, buildA, structPlaces, fillA, splice, bytesOf, TView_asked.av, TView_Page.av, aR_eq, aR_eq], by simp [hl, s0, s4, s6, s7, s8, s34, o_b1, o_b7, ex16a, ex16b, ex16c, ex16d, yex16b, yex16d, kx16, lx16, ofBytes_length, bytesOf_ofBytes, stripL_bytes, cleanL_bytes, headOk_bytes, strs, minsA, minA, sliceA, buildSliceA, buildA, structPlaces, fillA, splice, bytesOf, TView_asked.av, TView_Page.av, aR_eq, aR_eq], by simp [hl, s0, s4, s6, s7, s8, s34, o_b1, o_b7, ex16a, ex16b, ex16c, ex16d, yex16b, yex16d, kx16, lx16, ofBytes_length, bytesOf_ofBytes, stripL_bytes, cleanL_bytes, headOk_bytes, strs, minsA, minA, sliceA, buildSliceA, buildA, structPlaces, fillA, splice, bytesOf, TView_asked.av, TView_Page.av, aR_eq, aR_eq], by simp [hl, s0, s4, s6, s7, s8, s34, o_b1, o_b7, ex16a, ex16b, ex16c, ex16d, yex16b, yex16d, kx16, lx16, ofBytes_length, bytesOf_ofBytes, stripL_bytes, cleanL_bytes, headOk_bytes, strs, minsA, minA, sliceA, buildSliceA, buildA, structPlaces, fillA, splice, bytesOf, TView_asked.av, TView_Page.av, aR_eq, aR_eq]⟩ ?_
            clear hl s0 s4 s6 s7 s8 s34 fr
            rintro fr ⟨hl, s0, s4, s6, s8, s44⟩
            obtain ⟨w19, hw19⟩ : ∃ b : Bool, b = (decide ((x16 : Int) < 0)) := ⟨_, rfl⟩
            rw [← hw19] at s44
            cases w19 with
            | true =>
              rw [← hw19] at eq18
              rw [if_pos rfl] at eq18
              have eq18 := (Option.some.inj eq18).symm
              apply EvOps.run
              · intro call; simp [hl, s0, s4, s6, s8, s44, o_b1, o_b7, ex16a, ex16b, ex16c, ex16d, yex16b, yex16d, kx16, lx16, eq18, ofBytes_length, bytesOf_ofBytes, stripL_bytes, cleanL_bytes, headOk_bytes, strs, minsA, minA, sliceA, buildSliceA, buildA, structPlaces, fillA, splice, bytesOf, TView_asked.av, TView_Page.av, aR_eq, aR_eq]; exact rfl
              exact ⟨_, rfl, by simp [hl], by simp [hl, s0, s4, s6, s8, s44, o_b1, o_b7, ex16a, ex16b, ex16c, ex16d, yex16b, yex16d, kx16, lx16, eq18, ofBytes_length, bytesOf_ofBytes, stripL_bytes, cleanL_bytes, headOk_bytes, strs, minsA, minA, sliceA, buildSliceA, buildA, structPlaces, fillA, splice, bytesOf, TView_asked.av, TView_Page.av, aR_eq, aR_eq], by simp [hl, s0, s4, s6, s8, s44, o_b1, o_b7, ex16a, ex16b, ex16c, ex16d, yex16b, yex16d, kx16, lx16, eq18, ofBytes_length, bytesOf_ofBytes, stripL_bytes, cleanL_bytes, headOk_bytes, strs, minsA, minA, sliceA, buildSliceA, buildA, structPlaces, fillA, splice, bytesOf, TView_asked.av, TView_Page.av, aR_eq, aR_eq], by simp [hl, s0, s4, s6, s8, s44, o_b1, o_b7, ex16a, ex16b, ex16c, ex16d, yex16b, yex16d, kx16, lx16, eq18, ofBytes_length, bytesOf_ofBytes, stripL_bytes, cleanL_bytes, headOk_bytes, strs, minsA, minA, sliceA, buildSliceA, buildA, structPlaces, fillA, splice, bytesOf, TView_asked.av, TView_Page.av, aR_eq, aR_eq], by simp [hl, s0, s4, s6, s8, s44, o_b1, o_b7, ex16a, ex16b, ex16c, ex16d, yex16b, yex16d, kx16, lx16, eq18, ofBytes_length, bytesOf_ofBytes, stripL_bytes, cleanL_bytes, headOk_bytes, strs, minsA, minA, sliceA, buildSliceA, buildA, structPlaces, fillA, splice, bytesOf, TView_asked.av, TView_Page.av, aR_eq, aR_eq], by first | (simp [hl, s0, s4, s6, s8, s44, o_b1, o_b7, ex16a, ex16b, ex16c, ex16d, yex16b, yex16d, kx16, lx16, eq18, ofBytes_length, bytesOf_ofBytes, stripL_bytes, cleanL_bytes, headOk_bytes, strs, minsA, minA, sliceA, buildSliceA, buildA, structPlaces, fillA, splice, bytesOf, TView_asked.av, TView_Page.av, aR_eq, aR_eq]; done) | ((try simp only [← hw19]); (first | done | simp [hl, s0, s4, s6, s8, s44, o_b1, o_b7, ex16a, ex16b, ex16c, ex16d, yex16b, yex16d, kx16, lx16, eq18, ofBytes_length, bytesOf_ofBytes, stripL_bytes, cleanL_bytes, headOk_bytes, strs, minsA, minA, sliceA, buildSliceA, buildA, structPlaces, fillA, splice, bytesOf, TView_asked.av, TView_Page.av, aR_eq, aR_eq]))⟩
            | false =>
              rw [← hw19] at eq18
              rw [if_neg (by simp)] at eq18
              obtain ⟨x17, ex17, eq18⟩ := bind_some eq18
              obtain ⟨ex17a, ex17b, ex17c, ex17d⟩ := getAt_some ex17
              have yex17b := ex17b
              try simp at yex17b
              have yex17d := ex17d
              try simp at yex17d
              have kx17 : r13.1[1]? = some x17 := ex17c
              have lx17 : ∀ h : 1 < List.length r13.1, r13.1[1]'h = x17 := ex17d
              have eq18 := (Option.some.inj eq18).symm
              apply EvOps.run
              · intro call; simp [hl, s0, s4, s6, s8, s44, o_b1, o_b7, ex16a, ex16b, ex16c, ex16d, yex16b, yex16d, kx16, lx16, ex17a, ex17b, ex17c, ex17d, yex17b, yex17d, kx17, lx17, eq18, ofBytes_length, bytesOf_ofBytes, stripL_bytes, cleanL_bytes, headOk_bytes, strs, minsA, minA, sliceA, buildSliceA, buildA, structPlaces, fillA, splice, bytesOf, TView_asked.av, TView_Page.av, aR_eq, aR_eq]; exact rfl
              exact ⟨_, rfl, by simp [hl], by simp [hl, s0, s4, s6, s8, s44, o_b1, o_b7, ex16a, ex16b, ex16c, ex16d, yex16b, yex16d, kx16, lx16, ex17a, ex17b, ex17c, ex17d, yex17b, yex17d, kx17, lx17, eq18, ofBytes_length, bytesOf_ofBytes, stripL_bytes, cleanL_bytes, headOk_bytes, strs, minsA, minA, sliceA, buildSliceA, buildA, structPlaces, fillA, splice, bytesOf, TView_asked.av, TView_Page.av, aR_eq, aR_eq], by simp [hl, s0, s4, s6, s8, s44, o_b1, o_b7, ex16a, ex16b, ex16c, ex16d, yex16b, yex16d, kx16, lx16, ex17a, ex17b, ex17c, ex17d, yex17b, yex17d, kx17, lx17, eq18, ofBytes_length, bytesOf_ofBytes, stripL_bytes, cleanL_bytes, headOk_bytes, strs, minsA, minA, sliceA, buildSliceA, buildA, structPlaces, fillA, splice, bytesOf, TView_asked.av, TView_Page.av, aR_eq, aR_eq], by simp [hl, s0, s4, s6, s8, s44, o_b1, o_b7, ex16a, ex16b, ex16c, ex16d, yex16b, yex16d, kx16, lx16, ex17a, ex17b, ex17c, ex17d, yex17b, yex17d, kx17, lx17, eq18, ofBytes_length, bytesOf_ofBytes, stripL_bytes, cleanL_bytes, headOk_bytes, strs, minsA, minA, sliceA, buildSliceA, buildA, structPlaces, fillA, splice, bytesOf, TView_asked.av, TView_Page.av, aR_eq, aR_eq], by simp [hl, s0, s4, s6, s8, s44, o_b1, o_b7, ex16a, ex16b, ex16c, ex16d, yex16b, yex16d, kx16, lx16, ex17a, ex17b, ex17c, ex17d, yex17b, yex17d, kx17, lx17, eq18, ofBytes_length, bytesOf_ofBytes, stripL_bytes, cleanL_bytes, headOk_bytes, strs, minsA, minA, sliceA, buildSliceA, buildA, structPlaces, fillA, splice, bytesOf, TView_asked.av, TView_Page.av, aR_eq, aR_eq], by first | (simp [hl, s0, s4, s6, s8, s44, o_b1, o_b7, ex16a, ex16b, ex16c, ex16d, yex16b, yex16d, kx16, lx16, ex17a, ex17b, ex17c, ex17d, yex17b, yex17d, kx17, lx17, eq18, ofBytes_length, bytesOf_ofBytes, stripL_bytes, cleanL_bytes, headOk_bytes, strs, minsA, minA, sliceA, buildSliceA, buildA, structPlaces, fillA, splice, bytesOf, TView_asked.av, TView_Page.av, aR_eq, aR_eq]; done) | ((try simp only [← hw19]); (first | done | simp [hl, s0, s4, s6, s8, s44, o_b1, o_b7, ex16a, ex16b, ex16c, ex16d, yex16b, yex16d, kx16, lx16, ex17a, ex17b, ex17c, ex17d, yex17b, yex17d, kx17, lx17, eq18, ofBytes_length, bytesOf_ofBytes, stripL_bytes, cleanL_bytes, headOk_bytes, strs, minsA, minA, sliceA, buildSliceA, buildA, structPlaces, fillA, splice, bytesOf, TView_asked.av, TView_Page.av, aR_eq, aR_eq]))⟩
          · clear hl s0 s4 s6 s7 s8 s34 fr
            rintro st ⟨fr, rfl, hl, s0, s4, s6, s8, s49⟩
            apply EvOps.run
            · intro call; simp [hl, s0, s4, s6, s8, s49, o_b1, o_b7, ex16a, ex16b, ex16c, ex16d, yex16b, yex16d, kx16, lx16, ofBytes_length, bytesOf_ofBytes, stripL_bytes, cleanL_bytes, headOk_bytes, strs, minsA, minA, sliceA, buildSliceA, buildA, structPlaces, fillA, splice, bytesOf, TView_asked.av, TView_Page.av, aR_eq, aR_eq]; exact rfl
            exact ⟨_, rfl, by simp [hl], by simp [hl, s0, s4, s6, s8, s49, o_b1, o_b7, ex16a, ex16b, ex16c, ex16d, yex16b, yex16d, kx16, lx16, ofBytes_length, bytesOf_ofBytes, stripL_bytes, cleanL_bytes, headOk_bytes, strs, minsA, minA, sliceA, buildSliceA, buildA, structPlaces, fillA, splice, bytesOf, TView_asked.av, TView_Page.av, aR_eq, aR_eq], by simp [hl, s0, s4, s6, s8, s49, o_b1, o_b7, ex16a, ex16b, ex16c, ex16d, yex16b, yex16d, kx16, lx16, ofBytes_length, bytesOf_ofBytes, stripL_bytes, cleanL_bytes, headOk_bytes, strs, minsA, minA, sliceA, buildSliceA, buildA, structPlaces, fillA, splice, bytesOf, TView_asked.av, TView_Page.av, aR_eq, aR_eq], by simp [hl, s0, s4, s6, s8, s49, o_b1, o_b7, ex16a, ex16b, ex16c, ex16d, yex16b, yex16d, kx16, lx16, ofBytes_length, bytesOf_ofBytes, stripL_bytes, cleanL_bytes, headOk_bytes, strs, minsA, minA, sliceA, buildSliceA, buildA, structPlaces, fillA, splice, bytesOf, TView_asked.av, TView_Page.av, aR_eq, aR_eq], by simp [hl, s0, s4, s6, s8, s49, o_b1, o_b7, ex16a, ex16b, ex16c, ex16d, yex16b, yex16d, kx16, lx16, ofBytes_length, bytesOf_ofBytes, stripL_bytes, cleanL_bytes, headOk_bytes, strs, minsA, minA, sliceA, buildSliceA, buildA, structPlaces, fillA, splice, bytesOf, TView_asked.av, TView_Page.av, aR_eq, aR_eq], by simp [hl, s0, s4, s6, s8, s49, o_b1, o_b7, ex16a, ex16b, ex16c, ex16d, yex16b, yex16d, kx16, lx16, ofBytes_length, bytesOf_ofBytes, stripL_bytes, cleanL_bytes, headOk_bytes, strs, minsA, minA, sliceA, buildSliceA, buildA, structPlaces, fillA, splice, bytesOf, TView_asked.av, TView_Page.av, aR_eq, aR_eq]⟩
        clear hl s0 s4 s6 s7 s8 s34 fr
        rintro st ⟨fr, rfl, hl, s0, s4, s6, s8, s39⟩
        refine Ev.cond (q18) (by simp [hl, s0, s4, s6, s8, s39, o_b1, o_b7, ofBytes_length, bytesOf_ofBytes, stripL_bytes, cleanL_bytes, headOk_bytes, strs, minsA, minA, sliceA, buildSliceA, buildA, structPlaces, fillA, splice, bytesOf, TView_asked.av, TView_Page.av, aR_eq, aR_eq]) (fun h_20 => ?_) (fun h_20 => ?_)
        · rw [if_pos h_20] at hg
          refine Ev.seq ?_
          refine Ev.region ?_
          refine EvOps.take 1 ?_
          apply EvOps.run
          · intro call; simp [hl, s0, s4, s6, s8, s39, o_b1, o_b7, ofBytes_length, bytesOf_ofBytes, stripL_bytes, cleanL_bytes, headOk_bytes, strs, minsA, minA, sliceA, buildSliceA, buildA, structPlaces, fillA, splice, bytesOf, TView_asked.av, TView_Page.av, aR_eq, aR_eq]; exact rfl
          refine EvOps.storeR (b := b1) (off := 0) (vs := [AV.int .i64 0, AV.int .i64 0, AV.int .i64 0, AV.str []]) (cs' := [AV.int .i64 0, AV.int .i64 0, AV.int .i64 0, AV.str []]) rfl (by simp [hl, s0, s4, s6, s8, s39, o_b1, o_b7, ofBytes_length, bytesOf_ofBytes, stripL_bytes, cleanL_bytes, headOk_bytes, strs, minsA, minA, sliceA, buildSliceA, buildA, structPlaces, fillA, splice, bytesOf, TView_asked.av, TView_Page.av, aR_eq, aR_eq]) (by simp [hl, s0, s4, s6, s8, s39, o_b1, o_b7, ofBytes_length, bytesOf_ofBytes, stripL_bytes, cleanL_bytes, headOk_bytes, strs, minsA, minA, sliceA, buildSliceA, buildA, structPlaces, fillA, splice, bytesOf, TView_asked.av, TView_Page.av, aR_eq, aR_eq] <;> exact rfl) (by simp [hl, s0, s4, s6, s8, s39, o_b1, o_b7, ofBytes_length, bytesOf_ofBytes, stripL_bytes, cleanL_bytes, headOk_bytes, strs, minsA, minA, sliceA, buildSliceA, buildA, structPlaces, fillA, splice, bytesOf, TView_asked.av, TView_Page.av, aR_eq, aR_eq] <;> exact rfl) o_b1 (by simp [hl, s0, s4, s6, s8, s39, o_b1, o_b7, ofBytes_length, bytesOf_ofBytes, stripL_bytes, cleanL_bytes, headOk_bytes, strs, minsA, minA, sliceA, buildSliceA, buildA, structPlaces, fillA, splice, bytesOf, TView_asked.av, TView_Page.av, aR_eq, aR_eq]) (by simp) (by simp) (by simp [AV.one]) (by simp [splice]) ?_
          intro h21 up
          have o_b7 := up.cells o_b7 (Ne.symm n_b1_b7)
          have o_b1 := up.get
          clear up
          apply EvOps.keep (h' := h21) (d' := false) (fun fr => fr.length = 81 ∧ slotAt fr 4 = some (AV.ptr b1 0) ∧ slotAt fr 5 = some (AV.int .i64 44))
          · intro call; simp [hl, s0, s4, s6, s8, s39, o_b1, o_b7, ofBytes_length, bytesOf_ofBytes, stripL_bytes, cleanL_bytes, headOk_bytes, strs, minsA, minA, sliceA, buildSliceA, buildA, structPlaces, fillA, splice, bytesOf, TView_asked.av, TView_Page.av, aR_eq, aR_eq]; exact rfl
          · exact ⟨by simp [hl], by simp [hl, s0, s4, s6, s8, s39, o_b1, o_b7, ofBytes_length, bytesOf_ofBytes, stripL_bytes, cleanL_bytes, headOk_bytes, strs, minsA, minA, sliceA, buildSliceA, buildA, structPlaces, fillA, splice, bytesOf, TView_asked.av, TView_Page.av, aR_eq, aR_eq], by simp [hl, s0, s4, s6, s8, s39, o_b1, o_b7, ofBytes_length, bytesOf_ofBytes, stripL_bytes, cleanL_bytes, headOk_bytes, strs, minsA, minA, sliceA, buildSliceA, buildA, structPlaces, fillA, splice, bytesOf, TView_asked.av, TView_Page.av, aR_eq, aR_eq]⟩
          clear hl s0 s4 s6 s8 s39 fr
          rintro fr ⟨hl, s4, s5⟩
          refine Ev.ret ?_
          have hs := Option.some.inj hg; subst hs
          exact ⟨AV.tuple [AV.agg [AV.int .i64 0, AV.int .i64 0, AV.int .i64 0, AV.str []], AV.int .i64 44], by simp [Try.f9, hl, s4, s5, o_b1, o_b7, ofBytes_length, bytesOf_ofBytes, stripL_bytes, cleanL_bytes, headOk_bytes, strs, minsA, minA, sliceA, buildSliceA, buildA, structPlaces, fillA, splice, bytesOf, TView_asked.av, TView_Page.av, aR_eq, aR_eq] <;> exact rfl, by simp [strs, TView_asked.av, TView_Page.av, aR_eq, aR_eq]⟩
        · rw [if_neg (by rw [h_20]; simp)] at hg
          refine Ev.skip ?_
          refine Ev.seq ?_
          refine Ev.region ?_
          apply EvOps.keep (h' := h9) (d' := false) (fun fr => fr.length = 81 ∧ slotAt fr 0 = some (AV.int .i64 ((if (0 : Int) > a0 then 0 else a0))) ∧ slotAt fr 4 = some (AV.ptr b1 0) ∧ slotAt fr 6 = some (AV.ptr b7 0) ∧ slotAt fr 8 = some (.list (r13.1.map (AV.int .i64)) false none none))
          · intro call; simp [hl, s0, s4, s6, s8, s39, o_b1, o_b7, ofBytes_length, bytesOf_ofBytes, stripL_bytes, cleanL_bytes, headOk_bytes, strs, minsA, minA, sliceA, buildSliceA, buildA, structPlaces, fillA, splice, bytesOf, TView_asked.av, TView_Page.av, aR_eq, aR_eq]; exact rfl
          · exact ⟨by simp [hl], by simp [hl, s0, s4, s6, s8, s39, o_b1, o_b7, ofBytes_length, bytesOf_ofBytes, stripL_bytes, cleanL_bytes, headOk_bytes, strs, minsA, minA, sliceA, buildSliceA, buildA, structPlaces, fillA, splice, bytesOf, TView_asked.av, TView_Page.av, aR_eq, aR_eq], by simp [hl, s0, s4, s6, s8, s39, o_b1, o_b7, ofBytes_length, bytesOf_ofBytes, stripL_bytes, cleanL_bytes, headOk_bytes, strs, minsA, minA, sliceA, buildSliceA, buildA, structPlaces, fillA, splice, bytesOf, TView_asked.av, TView_Page.av, aR_eq, aR_eq], by simp [hl, s0, s4, s6, s8, s39, o_b1, o_b7, ofBytes_length, bytesOf_ofBytes, stripL_bytes, cleanL_bytes, headOk_bytes, strs, minsA, minA, sliceA, buildSliceA, buildA, structPlaces, fillA, splice, bytesOf, TView_asked.av, TView_Page.av, aR_eq, aR_eq], by simp [hl, s0, s4, s6, s8, s39, o_b1, o_b7, ofBytes_length, bytesOf_ofBytes, stripL_bytes, cleanL_bytes, headOk_bytes, strs, minsA, minA, sliceA, buildSliceA, buildA, structPlaces, fillA, splice, bytesOf, TView_asked.av, TView_Page.av, aR_eq, aR_eq]⟩
          clear hl s0 s4 s6 s8 s39 fr
          rintro fr ⟨hl, s0, s4, s6, s8⟩
          refine Ev.seq ?_
          refine Ev.region ?_
          obtain ⟨x22, ex22, hg⟩ := bind_some hg
          obtain ⟨ex22a, ex22b, ex22c, ex22d⟩ := getAt_some ex22
          have yex22b := ex22b
          try simp at yex22b
          have yex22d := ex22d
          try simp at yex22d
          have kx22 : r13.1[0]? = some x22 := ex22c
          have lx22 : ∀ h : 0 < List.length r13.1, r13.1[0]'h = x22 := ex22d
          refine EvOps.take 8 ?_
          apply EvOps.run
          · intro call; simp [hl, s0, s4, s6, s8, o_b1, o_b7, ex22a, ex22b, ex22c, ex22d, yex22b, yex22d, kx22, lx22, ofBytes_length, bytesOf_ofBytes, stripL_bytes, cleanL_bytes, headOk_bytes, strs, minsA, minA, sliceA, buildSliceA, buildA, structPlaces, fillA, splice, bytesOf, TView_asked.av, TView_Page.av, aR_eq, aR_eq]; exact rfl
          refine EvOps.allocR (cs := [AV.int .i64 0, AV.int .i64 0, AV.int .i64 0, AV.str []]) rfl (by simp [hl, s0, s4, s6, s8, o_b1, o_b7, ex22a, ex22b, ex22c, ex22d, yex22b, yex22d, kx22, lx22, ofBytes_length, bytesOf_ofBytes, stripL_bytes, cleanL_bytes, headOk_bytes, strs, minsA, minA, sliceA, buildSliceA, buildA, structPlaces, fillA, splice, bytesOf, TView_asked.av, TView_Page.av, aR_eq, aR_eq]) Ty.z25 (by simp) (by simp) ?_
          intro h24 b23 ex
          have o_b23 := ex.get
          have n_b1_b23 := ex.ne _ _ o_b1
          have o_b1 := ex.old _ _ o_b1
          have n_b7_b23 := ex.ne _ _ o_b7
          have o_b7 := ex.old _ _ o_b7
          clear ex
          refine EvOps.storeR (b := b23) (off := 0) (vs := [AV.int .i64 ((if ((if (0 : Int) > a0 then 0 else a0) : Int) < x22 then (if (0 : Int) > a0 then 0 else a0) else x22)), AV.int .i64 0, AV.int .i64 0, AV.str r6.1.f_match]) (cs' := [AV.int .i64 ((if ((if (0 : Int) > a0 then 0 else a0) : Int) < x22 then (if (0 : Int) > a0 then 0 else a0) else x22)), AV.int .i64 0, AV.int .i64 0, AV.str r6.1.f_match]) rfl (by simp [hl, s0, s4, s6, s8, o_b1, o_b7, o_b23, ex22a, ex22b, ex22c, ex22d, yex22b, yex22d, kx22, lx22, ofBytes_length, bytesOf_ofBytes, stripL_bytes, cleanL_bytes, headOk_bytes, strs, minsA, minA, sliceA, buildSliceA, buildA, structPlaces, fillA, splice, bytesOf, TView_asked.av, TView_Page.av, aR_eq, aR_eq]) (by simp [hl, s0, s4, s6, s8, o_b1, o_b7, o_b23, ex22a, ex22b, ex22c, ex22d, yex22b, yex22d, kx22, lx22, ofBytes_length, bytesOf_ofBytes, stripL_bytes, cleanL_bytes, headOk_bytes, strs, minsA, minA, sliceA, buildSliceA, buildA, structPlaces, fillA, splice, bytesOf, TView_asked.av, TView_Page.av, aR_eq, aR_eq] <;> exact rfl) (by simp [hl, s0, s4, s6, s8, o_b1, o_b7, o_b23, ex22a, ex22b, ex22c, ex22d, yex22b, yex22d, kx22, lx22, ofBytes_length, bytesOf_ofBytes, stripL_bytes, cleanL_bytes, headOk_bytes, strs, minsA, minA, sliceA, buildSliceA, buildA, structPlaces, fillA, splice, bytesOf, TView_asked.av, TView_Page.av, aR_eq, aR_eq] <;> exact rfl) o_b23 (by simp [hl, s0, s4, s6, s8, o_b1, o_b7, o_b23, ex22a, ex22b, ex22c, ex22d, yex22b, yex22d, kx22, lx22, ofBytes_length, bytesOf_ofBytes, stripL_bytes, cleanL_bytes, headOk_bytes, strs, minsA, minA, sliceA, buildSliceA, buildA, structPlaces, fillA, splice, bytesOf, TView_asked.av, TView_Page.av, aR_eq, aR_eq]) (by simp) (by simp) (by simp [AV.one]) (by simp [splice]) ?_
          intro h25 up
          have o_b1 := up.cells o_b1 n_b1_b23
          have o_b7 := up.cells o_b7 n_b7_b23
          have o_b23 := up.get
          clear up
          try dsimp only [St.put]
          refine EvOps.gen (fun fr => fr.length = 81 ∧ slotAt fr 0 = some (AV.int .i64 ((if (0 : Int) > a0 then 0 else a0))) ∧ slotAt fr 4 = some (AV.ptr b1 0) ∧ slotAt fr 8 = some (.list (r13.1.map (AV.int .i64)) false none none) ∧ slotAt fr 9 = some (AV.ptr b23 0)) ⟨by simp [hl], by simp [hl, s0, s4, s6, s8, o_b1, o_b7, o_b23, ex22a, ex22b, ex22c, ex22d, yex22b, yex22d, kx22, lx22, ofBytes_length, bytesOf_ofBytes, stripL_bytes, cleanL_bytes, headOk_bytes, strs, minsA, minA, sliceA, buildSliceA, buildA, structPlaces, fillA, splice, bytesOf, TView_asked.av, TView_Page.av, aR_eq, aR_eq], by simp [hl, s0, s4, s6, s8, o_b1, o_b7, o_b23, ex22a, ex22b, ex22c, ex22d, yex22b, yex22d, kx22, lx22, ofBytes_length, bytesOf_ofBytes, stripL_bytes, cleanL_bytes, headOk_bytes, strs, minsA, minA, sliceA, buildSliceA, buildA, structPlaces, fillA, splice, bytesOf, TView_asked.av, TView_Page.av, aR_eq, aR_eq], by simp [hl, s0, s4, s6, s8, o_b1, o_b7, o_b23, ex22a, ex22b, ex22c, ex22d, yex22b, yex22d, kx22, lx22, ofBytes_length, bytesOf_ofBytes, stripL_bytes, cleanL_bytes, headOk_bytes, strs, minsA, minA, sliceA, buildSliceA, buildA, structPlaces, fillA, splice, bytesOf, TView_asked.av, TView_Page.av, aR_eq, aR_eq], by simp [hl, s0, s4, s6, s8, o_b1, o_b7, o_b23, ex22a, ex22b, ex22c, ex22d, yex22b, yex22d, kx22, lx22, ofBytes_length, bytesOf_ofBytes, stripL_bytes, cleanL_bytes, headOk_bytes, strs, minsA, minA, sliceA, buildSliceA, buildA, structPlaces, fillA, splice, bytesOf, TView_asked.av, TView_Page.av, aR_eq, aR_eq]⟩ ?_
          clear hl s0 s4 s6 s8 fr
          rintro fr ⟨hl, s0, s4, s8, s9⟩
          refine EvOps.done ?_
          refine Ev.seq ?_
          refine Ev.region ?_
          obtain ⟨x26, ex26, hg⟩ := bind_some hg
          obtain ⟨ex26a, ex26b, ex26c, ex26d⟩ := getAt_some ex26
          have yex26b := ex26b
          try simp at yex26b
          have yex26d := ex26d
          try simp at yex26d
          have kx26 : r13.1[1]? = some x26 := ex26c
          have lx26 : ∀ h : 1 < List.length r13.1, r13.1[1]'h = x26 := ex26d
          refine EvOps.take 12 ?_
          apply EvOps.run
          · intro call; simp [hl, s0, s4, s8, s9, o_b1, o_b7, o_b23, ex26a, ex26b, ex26c, ex26d, yex26b, yex26d, kx26, lx26, ofBytes_length, bytesOf_ofBytes, stripL_bytes, cleanL_bytes, headOk_bytes, strs, minsA, minA, sliceA, buildSliceA, buildA, structPlaces, fillA, splice, bytesOf, TView_asked.av, TView_Page.av, aR_eq, aR_eq]; exact rfl
          refine EvOps.storeR (b := b23) (off := 1) (vs := [AV.int .i64 (IntKind.wrap .i64 (((if ((if (0 : Int) > a0 then 0 else a0) : Int) < x22 then (if (0 : Int) > a0 then 0 else a0) else x22)) + ((if (IntKind.wrap .i64 (((if (0 : Int) > a0 then 0 else a0)) - ((if ((if (0 : Int) > a0 then 0 else a0) : Int) < x22 then (if (0 : Int) > a0 then 0 else a0) else x22))) : Int) < x26 then IntKind.wrap .i64 (((if (0 : Int) > a0 then 0 else a0)) - ((if ((if (0 : Int) > a0 then 0 else a0) : Int) < x22 then (if (0 : Int) > a0 then 0 else a0) else x22))) else x26))))]) (cs' := [AV.int .i64 ((if ((if (0 : Int) > a0 then 0 else a0) : Int) < x22 then (if (0 : Int) > a0 then 0 else a0) else x22)), AV.int .i64 (IntKind.wrap .i64 (((if ((if (0 : Int) > a0 then 0 else a0) : Int) < x22 then (if (0 : Int) > a0 then 0 else a0) else x22)) + ((if (IntKind.wrap .i64 (((if (0 : Int) > a0 then 0 else a0)) - ((if ((if (0 : Int) > a0 then 0 else a0) : Int) < x22 then (if (0 : Int) > a0 then 0 else a0) else x22))) : Int) < x26 then IntKind.wrap .i64 (((if (0 : Int) > a0 then 0 else a0)) - ((if ((if (0 : Int) > a0 then 0 else a0) : Int) < x22 then (if (0 : Int) > a0 then 0 else a0) else x22))) else x26)))), AV.int .i64 0, AV.str r6.1.f_match]) rfl (by simp [hl, s0, s4, s8, s9, o_b1, o_b7, o_b23, ex26a, ex26b, ex26c, ex26d, yex26b, yex26d, kx26, lx26, ofBytes_length, bytesOf_ofBytes, stripL_bytes, cleanL_bytes, headOk_bytes, strs, minsA, minA, sliceA, buildSliceA, buildA, structPlaces, fillA, splice, bytesOf, TView_asked.av, TView_Page.av, aR_eq, aR_eq]) (by simp [hl, s0, s4, s8, s9, o_b1, o_b7, o_b23, ex26a, ex26b, ex26c, ex26d, yex26b, yex26d, kx26, lx26, ofBytes_length, bytesOf_ofBytes, stripL_bytes, cleanL_bytes, headOk_bytes, strs, minsA, minA, sliceA, buildSliceA, buildA, structPlaces, fillA, splice, bytesOf, TView_asked.av, TView_Page.av, aR_eq, aR_eq] <;> exact rfl) (by simp [hl, s0, s4, s8, s9, o_b1, o_b7, o_b23, ex26a, ex26b, ex26c, ex26d, yex26b, yex26d, kx26, lx26, ofBytes_length, bytesOf_ofBytes, stripL_bytes, cleanL_bytes, headOk_bytes, strs, minsA, minA, sliceA, buildSliceA, buildA, structPlaces, fillA, splice, bytesOf, TView_asked.av, TView_Page.av, aR_eq, aR_eq] <;> exact rfl) o_b23 (by simp [hl, s0, s4, s8, s9, o_b1, o_b7, o_b23, ex26a, ex26b, ex26c, ex26d, yex26b, yex26d, kx26, lx26, ofBytes_length, bytesOf_ofBytes, stripL_bytes, cleanL_bytes, headOk_bytes, strs, minsA, minA, sliceA, buildSliceA, buildA, structPlaces, fillA, splice, bytesOf, TView_asked.av, TView_Page.av, aR_eq, aR_eq]) (by simp) (by simp) (by simp [AV.one]) (by simp [splice]) ?_
          intro h27 up
          have o_b1 := up.cells o_b1 n_b1_b23
          have o_b7 := up.cells o_b7 n_b7_b23
          have o_b23 := up.get
          clear up
          try dsimp only [St.put]
          refine EvOps.gen (fun fr => fr.length = 81 ∧ slotAt fr 0 = some (AV.int .i64 ((if (0 : Int) > a0 then 0 else a0))) ∧ slotAt fr 4 = some (AV.ptr b1 0) ∧ slotAt fr 9 = some (AV.ptr b23 0)) ⟨by simp [hl], by simp [hl, s0, s4, s8, s9, o_b1, o_b7, o_b23, ex26a, ex26b, ex26c, ex26d, yex26b, yex26d, kx26, lx26, ofBytes_length, bytesOf_ofBytes, stripL_bytes, cleanL_bytes, headOk_bytes, strs, minsA, minA, sliceA, buildSliceA, buildA, structPlaces, fillA, splice, bytesOf, TView_asked.av, TView_Page.av, aR_eq, aR_eq], by simp [hl, s0, s4, s8, s9, o_b1, o_b7, o_b23, ex26a, ex26b, ex26c, ex26d, yex26b, yex26d, kx26, lx26, ofBytes_length, bytesOf_ofBytes, stripL_bytes, cleanL_bytes, headOk_bytes, strs, minsA, minA, sliceA, buildSliceA, buildA, structPlaces, fillA, splice, bytesOf, TView_asked.av, TView_Page.av, aR_eq, aR_eq], by simp [hl, s0, s4, s8, s9, o_b1, o_b7, o_b23, ex26a, ex26b, ex26c, ex26d, yex26b, yex26d, kx26, lx26, ofBytes_length, bytesOf_ofBytes, stripL_bytes, cleanL_bytes, headOk_bytes, strs, minsA, minA, sliceA, buildSliceA, buildA, structPlaces, fillA, splice, bytesOf, TView_asked.av, TView_Page.av, aR_eq, aR_eq]⟩ ?_
          clear hl s0 s4 s8 s9 fr
          rintro fr ⟨hl, s0, s4, s9⟩
          refine EvOps.done ?_
          refine Ev.mid (fun st => ∃ (fr : List AV) (h28 : Heap) (d29 : Bool) (v30 : Int) (v31 : Int) (v32 : Int) (v33 : S) (v34 : Int) (v35 : Int) (v36 : Int) (v37 : S), st = ⟨fr, h28, d29⟩ ∧ fr.length = 81 ∧ slotAt fr 4 = some (AV.ptr b1 0) ∧ slotAt fr 9 = some (AV.ptr b23 0) ∧ h28[b1]? = some (.cells [AV.int .i64 v30, AV.int .i64 v31, AV.int .i64 v32, AV.str v33]) ∧ h28[b23]? = some (.cells [AV.int .i64 v34, AV.int .i64 v35, AV.int .i64 v36, AV.str v37]) ∧ b1 ≠ b23 ∧ F9_j37 k v34 v35 v36 v37 = some r) ?_ ?_
          · refine Ev.seq ?_
            refine Ev.region ?_
            apply EvOps.keep (h' := h27) (d' := false) (fun fr => fr.length = 81 ∧ slotAt fr 4 = some (AV.ptr b1 0) ∧ slotAt fr 9 = some (AV.ptr b23 0) ∧ slotAt fr 76 = some (AV.bool (decide ((IntKind.wrap .i64 (((if ((if (0 : Int) > a0 then 0 else a0) : Int) < x22 then (if (0 : Int) > a0 then 0 else a0) else x22)) + ((if (IntKind.wrap .i64 (((if (0 : Int) > a0 then 0 else a0)) - ((if ((if (0 : Int) > a0 then 0 else a0) : Int) < x22 then (if (0 : Int) > a0 then 0 else a0) else x22))) : Int) < x26 then IntKind.wrap .i64 (((if (0 : Int) > a0 then 0 else a0)) - ((if ((if (0 : Int) > a0 then 0 else a0) : Int) < x22 then (if (0 : Int) > a0 then 0 else a0) else x22))) else x26))) : Int) < (if (0 : Int) > a0 then 0 else a0)))))
            · intro call; simp [hl, s0, s4, s9, o_b1, o_b7, o_b23, ofBytes_length, bytesOf_ofBytes, stripL_bytes, cleanL_bytes, headOk_bytes, strs, minsA, minA, sliceA, buildSliceA, buildA, structPlaces, fillA, splice, bytesOf, TView_asked.av, TView_Page.av, aR_eq, aR_eq]; exact rfl
            · exact ⟨by simp [hl], by simp [hl, s0, s4, s9, o_b1, o_b7, o_b23, ofBytes_length, bytesOf_ofBytes, stripL_bytes, cleanL_bytes, headOk_bytes, strs, minsA, minA, sliceA, buildSliceA, buildA, structPlaces, fillA, splice, bytesOf, TView_asked.av, TView_Page.av, aR_eq, aR_eq], by simp [hl, s0, s4, s9, o_b1, o_b7, o_b23, ofBytes_length, bytesOf_ofBytes, stripL_bytes, cleanL_bytes, headOk_bytes, strs, minsA, minA, sliceA, buildSliceA, buildA, structPlaces, fillA, splice, bytesOf, TView_asked.av, TView_Page.av, aR_eq, aR_eq], by simp [hl, s0, s4, s9, o_b1, o_b7, o_b23, ofBytes_length, bytesOf_ofBytes, stripL_bytes, cleanL_bytes, headOk_bytes, strs, minsA, minA, sliceA, buildSliceA, buildA, structPlaces, fillA, splice, bytesOf, TView_asked.av, TView_Page.av, aR_eq, aR_eq]⟩
            clear hl s0 s4 s9 fr
            rintro fr ⟨hl, s4, s9, s76⟩
            refine Ev.cond (decide ((IntKind.wrap .i64 (((if ((if (0 : Int) > a0 then 0 else a0) : Int) < x22 then (if (0 : Int) > a0 then 0 else a0) else x22)) + ((if (IntKind.wrap .i64 (((if (0 : Int) > a0 then 0 else a0)) - ((if ((if (0 : Int) > a0 then 0 else a0) : Int) < x22 then (if (0 : Int) > a0 then 0 else a0) else x22))) : Int) < x26 then IntKind.wrap .i64 (((if (0 : Int) > a0 then 0 else a0)) - ((if ((if (0 : Int) > a0 then 0 else a0) : Int) < x22 then (if (0 : Int) > a0 then 0 else a0) else x22))) else x26))) : Int) < (if (0 : Int) > a0 then 0 else a0))) (by simp [hl, s4, s9, s76, o_b1, o_b7, o_b23, ofBytes_length, bytesOf_ofBytes, stripL_bytes, cleanL_bytes, headOk_bytes, strs, minsA, minA, sliceA, buildSliceA, buildA, structPlaces, fillA, splice, bytesOf, TView_asked.av, TView_Page.av, aR_eq, aR_eq]) (fun h_40 => ?_) (fun h_40 => ?_)
            · rw [if_pos h_40] at hg
              refine Ev.region ?_
              refine EvOps.take 3 ?_
              apply EvOps.run
              · intro call; simp [hl, s4, s9, s76, o_b1, o_b7, o_b23, ofBytes_length, bytesOf_ofBytes, stripL_bytes, cleanL_bytes, headOk_bytes, strs, minsA, minA, sliceA, buildSliceA, buildA, structPlaces, fillA, splice, bytesOf, TView_asked.av, TView_Page.av, aR_eq, aR_eq]; exact rfl
              refine EvOps.storeR (b := b23) (off := 2) (vs := [AV.int .i64 (IntKind.wrap .i64 (((if ((if (0 : Int) > a0 then 0 else a0) : Int) < x22 then (if (0 : Int) > a0 then 0 else a0) else x22)) + ((if (IntKind.wrap .i64 (((if (0 : Int) > a0 then 0 else a0)) - ((if ((if (0 : Int) > a0 then 0 else a0) : Int) < x22 then (if (0 : Int) > a0 then 0 else a0) else x22))) : Int) < x26 then IntKind.wrap .i64 (((if (0 : Int) > a0 then 0 else a0)) - ((if ((if (0 : Int) > a0 then 0 else a0) : Int) < x22 then (if (0 : Int) > a0 then 0 else a0) else x22))) else x26))))]) (cs' := [AV.int .i64 ((if ((if (0 : Int) > a0 then 0 else a0) : Int) < x22 then (if (0 : Int) > a0 then 0 else a0) else x22)), AV.int .i64 (IntKind.wrap .i64 (((if ((if (0 : Int) > a0 then 0 else a0) : Int) < x22 then (if (0 : Int) > a0 then 0 else a0) else x22)) + ((if (IntKind.wrap .i64 (((if (0 : Int) > a0 then 0 else a0)) - ((if ((if (0 : Int) > a0 then 0 else a0) : Int) < x22 then (if (0 : Int) > a0 then 0 else a0) else x22))) : Int) < x26 then IntKind.wrap .i64 (((if (0 : Int) > a0 then 0 else a0)) - ((if ((if (0 : Int) > a0 then 0 else a0) : Int) < x22 then (if (0 : Int) > a0 then 0 else a0) else x22))) else x26)))), AV.int .i64 (IntKind.wrap .i64 (((if ((if (0 : Int) > a0 then 0 else a0) : Int) < x22 then (if (0 : Int) > a0 then 0 else a0) else x22)) + ((if (IntKind.wrap .i64 (((if (0 : Int) > a0 then 0 else a0)) - ((if ((if (0 : Int) > a0 then 0 else a0) : Int) < x22 then (if (0 : Int) > a0 then 0 else a0) else x22))) : Int) < x26 then IntKind.wrap .i64 (((if (0 : Int) > a0 then 0 else a0)) - ((if ((if (0 : Int) > a0 then 0 else a0) : Int) < x22 then (if (0 : Int) > a0 then 0 else a0) else x22))) else x26)))), AV.str r6.1.f_match]) rfl (by simp [hl, s4, s9, s76, o_b1, o_b7, o_b23, ofBytes_length, bytesOf_ofBytes, stripL_bytes, cleanL_bytes, headOk_bytes, strs, minsA, minA, sliceA, buildSliceA, buildA, structPlaces, fillA, splice, bytesOf, TView_asked.av, TView_Page.av, aR_eq, aR_eq]) (by simp [hl, s4, s9, s76, o_b1, o_b7, o_b23, ofBytes_length, bytesOf_ofBytes, stripL_bytes, cleanL_bytes, headOk_bytes, strs, minsA, minA, sliceA, buildSliceA, buildA, structPlaces, fillA, splice, bytesOf, TView_asked.av, TView_Page.av, aR_eq, aR_eq] <;> exact rfl) (by simp [hl, s4, s9, s76, o_b1, o_b7, o_b23, ofBytes_length, bytesOf_ofBytes, stripL_bytes, cleanL_bytes, headOk_bytes, strs, minsA, minA, sliceA, buildSliceA, buildA, structPlaces, fillA, splice, bytesOf, TView_asked.av, TView_Page.av, aR_eq, aR_eq] <;> exact rfl) o_b23 (by simp [hl, s4, s9, s76, o_b1, o_b7, o_b23, ofBytes_length, bytesOf_ofBytes, stripL_bytes, cleanL_bytes, headOk_bytes, strs, minsA, minA, sliceA, buildSliceA, buildA, structPlaces, fillA, splice, bytesOf, TView_asked.av, TView_Page.av, aR_eq, aR_eq]) (by simp) (by simp) (by simp [AV.one]) (by simp [splice]) ?_
              intro h41 up
              have o_b1 := up.cells o_b1 n_b1_b23
              have o_b7 := up.cells o_b7 n_b7_b23
              have o_b23 := up.get
              clear up
              try dsimp only [St.put]
              refine EvOps.gen (fun fr => fr.length = 81 ∧ slotAt fr 4 = some (AV.ptr b1 0) ∧ slotAt fr 9 = some (AV.ptr b23 0)) ⟨by simp [hl], by simp [hl, s4, s9, s76, o_b1, o_b7, o_b23, ofBytes_length, bytesOf_ofBytes, stripL_bytes, cleanL_bytes, headOk_bytes, strs, minsA, minA, sliceA, buildSliceA, buildA, structPlaces, fillA, splice, bytesOf, TView_asked.av, TView_Page.av, aR_eq, aR_eq], by simp [hl, s4, s9, s76, o_b1, o_b7, o_b23, ofBytes_length, bytesOf_ofBytes, stripL_bytes, cleanL_bytes, headOk_bytes, strs, minsA, minA, sliceA, buildSliceA, buildA, structPlaces, fillA, splice, bytesOf, TView_asked.av, TView_Page.av, aR_eq, aR_eq]⟩ ?_
              clear hl s4 s9 s76 fr
              rintro fr ⟨hl, s4, s9⟩
              refine EvOps.done ?_
              exact ⟨_, h41, false, 0, 0, 0, [], (if ((if (0 : Int) > a0 then 0 else a0) : Int) < x22 then (if (0 : Int) > a0 then 0 else a0) else x22), IntKind.wrap .i64 (((if ((if (0 : Int) > a0 then 0 else a0) : Int) < x22 then (if (0 : Int) > a0 then 0 else a0) else x22)) + ((if (IntKind.wrap .i64 (((if (0 : Int) > a0 then 0 else a0)) - ((if ((if (0 : Int) > a0 then 0 else a0) : Int) < x22 then (if (0 : Int) > a0 then 0 else a0) else x22))) : Int) < x26 then IntKind.wrap .i64 (((if (0 : Int) > a0 then 0 else a0)) - ((if ((if (0 : Int) > a0 then 0 else a0) : Int) < x22 then (if (0 : Int) > a0 then 0 else a0) else x22))) else x26))), IntKind.wrap .i64 (((if ((if (0 : Int) > a0 then 0 else a0) : Int) < x22 then (if (0 : Int) > a0 then 0 else a0) else x22)) + ((if (IntKind.wrap .i64 (((if (0 : Int) > a0 then 0 else a0)) - ((if ((if (0 : Int) > a0 then 0 else a0) : Int) < x22 then (if (0 : Int) > a0 then 0 else a0) else x22))) : Int) < x26 then IntKind.wrap .i64 (((if (0 : Int) > a0 then 0 else a0)) - ((if ((if (0 : Int) > a0 then 0 else a0) : Int) < x22 then (if (0 : Int) > a0 then 0 else a0) else x22))) else x26))), r6.1.f_match, rfl, hl, by simp [hl, s4, s9, o_b1, o_b7, o_b23, ofBytes_length, bytesOf_ofBytes, stripL_bytes, cleanL_bytes, headOk_bytes, strs, minsA, minA, sliceA, buildSliceA, buildA, structPlaces, fillA, splice, bytesOf, TView_asked.av, TView_Page.av, aR_eq, aR_eq], by simp [hl, s4, s9, o_b1, o_b7, o_b23, ofBytes_length, bytesOf_ofBytes, stripL_bytes, cleanL_bytes, headOk_bytes, strs, minsA, minA, sliceA, buildSliceA, buildA, structPlaces, fillA, splice, bytesOf, TView_asked.av, TView_Page.av, aR_eq, aR_eq], o_b1, o_b23, n_b1_b23, hg⟩
            · rw [if_neg (by rw [h_40]; simp)] at hg
              refine Ev.skip ?_
              exact ⟨_, h27, false, 0, 0, 0, [], (if ((if (0 : Int) > a0 then 0 else a0) : Int) < x22 then (if (0 : Int) > a0 then 0 else a0) else x22), IntKind.wrap .i64 (((if ((if (0 : Int) > a0 then 0 else a0) : Int) < x22 then (if (0 : Int) > a0 then 0 else a0) else x22)) + ((if (IntKind.wrap .i64 (((if (0 : Int) > a0 then 0 else a0)) - ((if ((if (0 : Int) > a0 then 0 else a0) : Int) < x22 then (if (0 : Int) > a0 then 0 else a0) else x22))) : Int) < x26 then IntKind.wrap .i64 (((if (0 : Int) > a0 then 0 else a0)) - ((if ((if (0 : Int) > a0 then 0 else a0) : Int) < x22 then (if (0 : Int) > a0 then 0 else a0) else x22))) else x26))), 0, r6.1.f_match, rfl, hl, by simp [hl, s4, s9, s76, o_b1, o_b7, o_b23, ofBytes_length, bytesOf_ofBytes, stripL_bytes, cleanL_bytes, headOk_bytes, strs, minsA, minA, sliceA, buildSliceA, buildA, structPlaces, fillA, splice, bytesOf, TView_asked.av, TView_Page.av, aR_eq, aR_eq], by simp [hl, s4, s9, s76, o_b1, o_b7, o_b23, ofBytes_length, bytesOf_ofBytes, stripL_bytes, cleanL_bytes, headOk_bytes, strs, minsA, minA, sliceA, buildSliceA, buildA, structPlaces, fillA, splice, bytesOf, TView_asked.av, TView_Page.av, aR_eq, aR_eq], o_b1, o_b23, n_b1_b23, hg⟩
          · clear hg hl s0 s4 s9 fr
            rintro st ⟨fr, h28, d29, v30, v31, v32, v33, v34, v35, v36, v37, rfl, hl, s4, s9, o_b1, o_b23, n_b1_b23, hg⟩
            unfold F9_j37 at hg
            refine Ev.seq ?_
            refine Ev.region ?_
            refine EvOps.take 1 ?_
            apply EvOps.run
            · intro call; simp [hl, s4, s9, o_b1, o_b23, ofBytes_length, bytesOf_ofBytes, stripL_bytes, cleanL_bytes, headOk_bytes, strs, minsA, minA, sliceA, buildSliceA, buildA, structPlaces, fillA, splice, bytesOf, TView_asked.av, TView_Page.av, aR_eq, aR_eq]; exact rfl
            refine EvOps.storeR (b := b1) (off := 0) (vs := [AV.int .i64 v34, AV.int .i64 v35, AV.int .i64 v36, AV.str v37]) (cs' := [AV.int .i64 v34, AV.int .i64 v35, AV.int .i64 v36, AV.str v37]) rfl (by simp [hl, s4, s9, o_b1, o_b23, ofBytes_length, bytesOf_ofBytes, stripL_bytes, cleanL_bytes, headOk_bytes, strs, minsA, minA, sliceA, buildSliceA, buildA, structPlaces, fillA, splice, bytesOf, TView_asked.av, TView_Page.av, aR_eq, aR_eq]) (by simp [hl, s4, s9, o_b1, o_b23, ofBytes_length, bytesOf_ofBytes, stripL_bytes, cleanL_bytes, headOk_bytes, strs, minsA, minA, sliceA, buildSliceA, buildA, structPlaces, fillA, splice, bytesOf, TView_asked.av, TView_Page.av, aR_eq, aR_eq] <;> exact rfl) (by simp [hl, s4, s9, o_b1, o_b23, ofBytes_length, bytesOf_ofBytes, stripL_bytes, cleanL_bytes, headOk_bytes, strs, minsA, minA, sliceA, buildSliceA, buildA, structPlaces, fillA, splice, bytesOf, TView_asked.av, TView_Page.av, aR_eq, aR_eq] <;> exact rfl) o_b1 (by simp [hl, s4, s9, o_b1, o_b23, ofBytes_length, bytesOf_ofBytes, stripL_bytes, cleanL_bytes, headOk_bytes, strs, minsA, minA, sliceA, buildSliceA, buildA, structPlaces, fillA, splice, bytesOf, TView_asked.av, TView_Page.av, aR_eq, aR_eq]) (by simp) (by simp) (by simp [AV.one]) (by simp [splice]) ?_
            intro h39 up
            have o_b23 := up.cells o_b23 (Ne.symm n_b1_b23)
            have o_b1 := up.get
            clear up
            apply EvOps.keep (h' := h39) (d' := d29) (fun fr => fr.length = 81 ∧ slotAt fr 4 = some (AV.ptr b1 0) ∧ slotAt fr 5 = some (AV.int .i64 0))
            · intro call; simp [hl, s4, s9, o_b1, o_b23, ofBytes_length, bytesOf_ofBytes, stripL_bytes, cleanL_bytes, headOk_bytes, strs, minsA, minA, sliceA, buildSliceA, buildA, structPlaces, fillA, splice, bytesOf, TView_asked.av, TView_Page.av, aR_eq, aR_eq]; exact rfl
            · exact ⟨by simp [hl], by simp [hl, s4, s9, o_b1, o_b23, ofBytes_length, bytesOf_ofBytes, stripL_bytes, cleanL_bytes, headOk_bytes, strs, minsA, minA, sliceA, buildSliceA, buildA, structPlaces, fillA, splice, bytesOf, TView_asked.av, TView_Page.av, aR_eq, aR_eq], by simp [hl, s4, s9, o_b1, o_b23, ofBytes_length, bytesOf_ofBytes, stripL_bytes, cleanL_bytes, headOk_bytes, strs, minsA, minA, sliceA, buildSliceA, buildA, structPlaces, fillA, splice, bytesOf, TView_asked.av, TView_Page.av, aR_eq, aR_eq]⟩
            clear hl s4 s9 fr
            rintro fr ⟨hl, s4, s5⟩
            refine Ev.ret ?_
            have hs := Option.some.inj hg; subst hs
            exact ⟨AV.tuple [AV.agg [AV.int .i64 v34, AV.int .i64 v35, AV.int .i64 v36, AV.str v37], AV.int .i64 0], by simp [Try.f9, hl, s4, s5, o_b1, o_b23, ofBytes_length, bytesOf_ofBytes, stripL_bytes, cleanL_bytes, headOk_bytes, strs, minsA, minA, sliceA, buildSliceA, buildA, structPlaces, fillA, splice, bytesOf, TView_asked.av, TView_Page.av, aR_eq, aR_eq] <;> exact rfl, by simp [strs, TView_asked.av, TView_Page.av, aR_eq, aR_eq]⟩

/-- pentimento/pentimentolaw20.digits -/
def F10_l2_b (k : Nat) : Int × S → Option (Sum (Int × S) S) := fun lv =>
  match lv with | (v1, v2) => (if decide ((v1 : Int) > 0) = true then (chk (List.length [UInt8.ofNat (Int.toNat (IntKind.wrap .u8 (IntKind.wrap .i64 ((48 : Int) + (Int.tmod v1 (10 : Int))))))] + List.length v2 ≤ 140737488355328)).bind fun _ => some (Sum.inl (IntKind.wrap .i64 (Int.tdiv v1 (10 : Int)), [UInt8.ofNat (Int.toNat (IntKind.wrap .u8 (IntKind.wrap .i64 ((48 : Int) + (Int.tmod v1 (10 : Int))))))] ++ v2)) else some (Sum.inr v2))
def F10_l2 (k : Nat) : Nat → Int × S → Option S
  | 0, _ => none
  | m + 1, lv => (F10_l2_b k lv).bind fun s => match s with | .inl lv => F10_l2 k m lv | .inr o => some o
def F10 (k : Nat) (a0 : Int) : Option (S) :=
  (F10_l2 k k (a0, [])).bind fun o7 => (match o7 with | v4 => some v4)
set_option maxHeartbeats 8000000 in
theorem F10_ok {k : Nat} {a0 : Int} {r : S} (hg : F10 k a0 = some r) : Ret cfg 10 [AV.int .i64 a0] (AV.str r) := by
  unfold F10 at hg
  refine Ret.of_body rfl rfl Try.func10 rfl (by simp [strs, stripL_bytes, cleanL_bytes, headOk_bytes]) (by simp [strs, stripL_bytes, cleanL_bytes, headOk_bytes]) ?_
  obtain ⟨fr, hfr⟩ : ∃ fr, fr = [AV.int .i64 a0] ++ List.replicate (Try.f10.ntmps - [AV.int .i64 a0].length) AV.undef := ⟨_, rfl⟩
  rw [← hfr]
  have hl : fr.length = 17 := by rw [hfr]; rfl
  have s0 : slotAt fr 0 = some (AV.int .i64 a0) := by rw [hfr]; first | rfl | simp [aR_eq, aR_eq]
  clear hfr
  refine Ev.seq ?_
  refine Ev.region ?_
  apply EvOps.keep (h' := []) (d' := false) (fun fr => fr.length = 17 ∧ slotAt fr 0 = some (AV.int .i64 a0))
  · intro call; simp [hl, s0, ofBytes_length, bytesOf_ofBytes, stripL_bytes, cleanL_bytes, headOk_bytes, strs, minsA, minA, sliceA, buildSliceA, buildA, structPlaces, fillA, splice, bytesOf, TView_asked.av, TView_Page.av, aR_eq, aR_eq]; exact rfl
  · exact ⟨by simp [hl], by simp [hl, s0, ofBytes_length, bytesOf_ofBytes, stripL_bytes, cleanL_bytes, headOk_bytes, strs, minsA, minA, sliceA, buildSliceA, buildA, structPlaces, fillA, splice, bytesOf, TView_asked.av, TView_Page.av, aR_eq, aR_eq]⟩
  clear hl s0 fr
  rintro fr ⟨hl, s0⟩
  refine Ev.seq ?_
  refine Ev.region ?_
  apply EvOps.keep (h' := []) (d' := false) (fun fr => fr.length = 17 ∧ slotAt fr 0 = some (AV.int .i64 a0) ∧ slotAt fr 3 = some (AV.str []))
  · intro call; simp [hl, s0, ofBytes_length, bytesOf_ofBytes, stripL_bytes, cleanL_bytes, headOk_bytes, strs, minsA, minA, sliceA, buildSliceA, buildA, structPlaces, fillA, splice, bytesOf, TView_asked.av, TView_Page.av, aR_eq, aR_eq]; exact rfl
  · exact ⟨by simp [hl], by simp [hl, s0, ofBytes_length, bytesOf_ofBytes, stripL_bytes, cleanL_bytes, headOk_bytes, strs, minsA, minA, sliceA, buildSliceA, buildA, structPlaces, fillA, splice, bytesOf, TView_asked.av, TView_Page.av, aR_eq, aR_eq], by simp [hl, s0, ofBytes_length, bytesOf_ofBytes, stripL_bytes, cleanL_bytes, headOk_bytes, strs, minsA, minA, sliceA, buildSliceA, buildA, structPlaces, fillA, splice, bytesOf, TView_asked.av, TView_Page.av, aR_eq, aR_eq]⟩
  clear hl s0 fr
  rintro fr ⟨hl, s0, s3⟩
  refine Ev.seq ?_
  refine Ev.block ?_
  obtain ⟨o7, eo7, hg⟩ := bind_some hg
  refine Ev.loopJ (fun x st => (x = .exit 0 ∧ ∃ (fr : List AV) (v4 : S), st = ⟨fr, [], false⟩ ∧ fr.length = 17 ∧ slotAt fr 3 = some (AV.str v4) ∧ o7 = v4)) (fun m st => ∃ (fr : List AV) (v1 : Int) (v2 : S), st = ⟨fr, [], false⟩ ∧ fr.length = 17 ∧ slotAt fr 0 = some (AV.int .i64 v1) ∧ slotAt fr 3 = some (AV.str v2) ∧ F10_l2 k m (v1, v2) = some o7) k _ ?_ ?_ ?_
  · exact ⟨_, a0, [], rfl, hl, by simp [hl, s0, s3, ofBytes_length, bytesOf_ofBytes, stripL_bytes, cleanL_bytes, headOk_bytes, strs, minsA, minA, sliceA, buildSliceA, buildA, structPlaces, fillA, splice, bytesOf, TView_asked.av, TView_Page.av, aR_eq, aR_eq], by simp [hl, s0, s3, ofBytes_length, bytesOf_ofBytes, stripL_bytes, cleanL_bytes, headOk_bytes, strs, minsA, minA, sliceA, buildSliceA, buildA, structPlaces, fillA, splice, bytesOf, TView_asked.av, TView_Page.av, aR_eq, aR_eq], eo7⟩
  · clear hg eo7 hl s0 s3 fr
    rintro m st ⟨fr, v1, v2, rfl, hl, s0, s3, hg⟩
    cases m with
    | zero => simp [F10_l2] at hg
    | succ m =>
    rw [F10_l2] at hg
    obtain ⟨s, hb, hstep⟩ := bind_some hg
    clear hg
    have hg := hb; clear hb
    unfold F10_l2_b at hg
    try dsimp only at hg
    refine Ev.seq ?_
    refine Ev.seq ?_
    refine Ev.region ?_
    apply EvOps.keep (h' := []) (d' := false) (fun fr => fr.length = 17 ∧ slotAt fr 0 = some (AV.int .i64 v1) ∧ slotAt fr 3 = some (AV.str v2) ∧ slotAt fr 5 = some (AV.bool (decide ((v1 : Int) > 0))))
    · intro call; simp [hl, s0, s3, ofBytes_length, bytesOf_ofBytes, stripL_bytes, cleanL_bytes, headOk_bytes, strs, minsA, minA, sliceA, buildSliceA, buildA, structPlaces, fillA, splice, bytesOf, TView_asked.av, TView_Page.av, aR_eq, aR_eq]; exact rfl
    · exact ⟨by simp [hl], by simp [hl, s0, s3, ofBytes_length, bytesOf_ofBytes, stripL_bytes, cleanL_bytes, headOk_bytes, strs, minsA, minA, sliceA, buildSliceA, buildA, structPlaces, fillA, splice, bytesOf, TView_asked.av, TView_Page.av, aR_eq, aR_eq], by simp [hl, s0, s3, ofBytes_length, bytesOf_ofBytes, stripL_bytes, cleanL_bytes, headOk_bytes, strs, minsA, minA, sliceA, buildSliceA, buildA, structPlaces, fillA, splice, bytesOf, TView_asked.av, TView_Page.av, aR_eq, aR_eq], by simp [hl, s0, s3, ofBytes_length, bytesOf_ofBytes, stripL_bytes, cleanL_bytes, headOk_bytes, strs, minsA, minA, sliceA, buildSliceA, buildA, structPlaces, fillA, splice, bytesOf, TView_asked.av, TView_Page.av, aR_eq, aR_eq]⟩
    clear hl s0 s3 fr
    rintro fr ⟨hl, s0, s3, s5⟩
    refine Ev.cond (decide ((v1 : Int) > 0)) (by simp [hl, s0, s3, s5, ofBytes_length, bytesOf_ofBytes, stripL_bytes, cleanL_bytes, headOk_bytes, strs, minsA, minA, sliceA, buildSliceA, buildA, structPlaces, fillA, splice, bytesOf, TView_asked.av, TView_Page.av, aR_eq, aR_eq]) (fun h_5 => ?_) (fun h_5 => ?_)
    · rw [if_pos h_5] at hg
      refine Ev.skip ?_
      refine Ev.block ?_
      refine Ev.seq ?_
      refine Ev.region ?_
      obtain ⟨u6, eu6, hg⟩ := bind_some hg
      have eu6 := chk_some eu6
      have yeu6 := eu6
      try simp at yeu6
      apply EvOps.keep (h' := []) (d' := false) (fun fr => fr.length = 17 ∧ slotAt fr 0 = some (AV.int .i64 v1) ∧ slotAt fr 3 = some (AV.str ([UInt8.ofNat (Int.toNat (IntKind.wrap .u8 (IntKind.wrap .i64 ((48 : Int) + (Int.tmod v1 (10 : Int))))))] ++ v2)))
      · intro call; simp [hl, s0, s3, s5, eu6, yeu6, ofBytes_length, bytesOf_ofBytes, stripL_bytes, cleanL_bytes, headOk_bytes, strs, minsA, minA, sliceA, buildSliceA, buildA, structPlaces, fillA, splice, bytesOf, TView_asked.av, TView_Page.av, aR_eq, aR_eq]; exact rfl
      · exact ⟨by simp [hl], by simp [hl, s0, s3, s5, eu6, yeu6, ofBytes_length, bytesOf_ofBytes, stripL_bytes, cleanL_bytes, headOk_bytes, strs, minsA, minA, sliceA, buildSliceA, buildA, structPlaces, fillA, splice, bytesOf, TView_asked.av, TView_Page.av, aR_eq, aR_eq], by simp [hl, s0, s3, s5, eu6, yeu6, ofBytes_length, bytesOf_ofBytes, stripL_bytes, cleanL_bytes, headOk_bytes, strs, minsA, minA, sliceA, buildSliceA, buildA, structPlaces, fillA, splice, bytesOf, TView_asked.av, TView_Page.av, aR_eq, aR_eq]⟩
      clear hl s0 s3 s5 fr
      rintro fr ⟨hl, s0, s3⟩
      refine Ev.region ?_
      apply EvOps.keep (h' := []) (d' := false) (fun fr => fr.length = 17 ∧ slotAt fr 0 = some (AV.int .i64 (IntKind.wrap .i64 (Int.tdiv v1 (10 : Int)))) ∧ slotAt fr 3 = some (AV.str ([UInt8.ofNat (Int.toNat (IntKind.wrap .u8 (IntKind.wrap .i64 ((48 : Int) + (Int.tmod v1 (10 : Int))))))] ++ v2)))
      · intro call; simp [hl, s0, s3, ofBytes_length, bytesOf_ofBytes, stripL_bytes, cleanL_bytes, headOk_bytes, strs, minsA, minA, sliceA, buildSliceA, buildA, structPlaces, fillA, splice, bytesOf, TView_asked.av, TView_Page.av, aR_eq, aR_eq]; exact rfl
      · exact ⟨by simp [hl], by simp [hl, s0, s3, ofBytes_length, bytesOf_ofBytes, stripL_bytes, cleanL_bytes, headOk_bytes, strs, minsA, minA, sliceA, buildSliceA, buildA, structPlaces, fillA, splice, bytesOf, TView_asked.av, TView_Page.av, aR_eq, aR_eq], by simp [hl, s0, s3, ofBytes_length, bytesOf_ofBytes, stripL_bytes, cleanL_bytes, headOk_bytes, strs, minsA, minA, sliceA, buildSliceA, buildA, structPlaces, fillA, splice, bytesOf, TView_asked.av, TView_Page.av, aR_eq, aR_eq]⟩
      clear hl s0 s3 fr
      rintro fr ⟨hl, s0, s3⟩
      have hs := Option.some.inj hg; subst hs; clear hg
      exact ⟨m, Nat.lt_succ_self m, _, IntKind.wrap .i64 (Int.tdiv v1 (10 : Int)), [UInt8.ofNat (Int.toNat (IntKind.wrap .u8 (IntKind.wrap .i64 ((48 : Int) + (Int.tmod v1 (10 : Int))))))] ++ v2, rfl, hl, by simp [hl, s0, s3, ofBytes_length, bytesOf_ofBytes, stripL_bytes, cleanL_bytes, headOk_bytes, strs, minsA, minA, sliceA, buildSliceA, buildA, structPlaces, fillA, splice, bytesOf, TView_asked.av, TView_Page.av, aR_eq, aR_eq], by simp [hl, s0, s3, ofBytes_length, bytesOf_ofBytes, stripL_bytes, cleanL_bytes, headOk_bytes, strs, minsA, minA, sliceA, buildSliceA, buildA, structPlaces, fillA, splice, bytesOf, TView_asked.av, TView_Page.av, aR_eq, aR_eq], hstep⟩
    · rw [if_neg (by rw [h_5]; simp)] at hg
      refine Ev.exit ?_
      have hs := Option.some.inj hg; subst hs; clear hg; have ho := Option.some.inj hstep; subst ho
      exact ⟨rfl, _, v2, rfl, hl, by simp [hl, s0, s3, s5, ofBytes_length, bytesOf_ofBytes, stripL_bytes, cleanL_bytes, headOk_bytes, strs, minsA, minA, sliceA, buildSliceA, buildA, structPlaces, fillA, splice, bytesOf, TView_asked.av, TView_Page.av, aR_eq, aR_eq], rfl⟩
  · clear eo7 hl s0 s3 fr
    rintro x st (⟨rfl, fr, v4, rfl, hl, s3, ho⟩)
    rw [ho] at hg; (try dsimp only at hg); clear ho
    refine Ev.seq ?_
    refine Ev.region ?_
    apply EvOps.keep (h' := []) (d' := false) (fun fr => fr.length = 17 ∧ slotAt fr 2 = some (AV.str v4))
    · intro call; simp [hl, s3, ofBytes_length, bytesOf_ofBytes, stripL_bytes, cleanL_bytes, headOk_bytes, strs, minsA, minA, sliceA, buildSliceA, buildA, structPlaces, fillA, splice, bytesOf, TView_asked.av, TView_Page.av, aR_eq, aR_eq]; exact rfl
    · exact ⟨by simp [hl], by simp [hl, s3, ofBytes_length, bytesOf_ofBytes, stripL_bytes, cleanL_bytes, headOk_bytes, strs, minsA, minA, sliceA, buildSliceA, buildA, structPlaces, fillA, splice, bytesOf, TView_asked.av, TView_Page.av, aR_eq, aR_eq]⟩
    clear hl s3 fr
    rintro fr ⟨hl, s2⟩
    refine Ev.ret ?_
    have hs := Option.some.inj hg; subst hs
    exact ⟨AV.str v4, by simp [Try.f10, hl, s2, ofBytes_length, bytesOf_ofBytes, stripL_bytes, cleanL_bytes, headOk_bytes, strs, minsA, minA, sliceA, buildSliceA, buildA, structPlaces, fillA, splice, bytesOf, TView_asked.av, TView_Page.av, aR_eq, aR_eq] <;> exact rfl, by simp [strs, TView_asked.av, TView_Page.av, aR_eq, aR_eq]⟩

end Go.Proofs.Ytpfdfilkhaoibaa
