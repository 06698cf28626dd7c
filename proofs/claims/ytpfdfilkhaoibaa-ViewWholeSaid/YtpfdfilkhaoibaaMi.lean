/-
  Parts, one behind the other: Va, Vb, Ins, Cl.
-/
import Derived.Test.YtpfdfilkhaoibaaRows
import Derived.Test.YtpfdfilkhaoibaaMh
/-
  Lifted functions.
-/
namespace Go.Proofs.Ytpfdfilkhaoibaa
open Go Ev
set_option linter.unusedVariables false
set_option linter.unusedSimpArgs false
set_option maxRecDepth 100000
/-- pentimento/pentimentolaw20.ViewWhole -/
def F3_l7_b (k : Nat) (a0 : Int) (a1 : Int) : S × Int × Int → Option (Sum (S × Int × Int) (Sum Unit Bool)) := fun lv =>
  match lv with | (v5, v6, v7) => (if decide ((v7 : Int) < 300) = true then (F9 k (Int.tmod (IntKind.wrap .i64 ((Int.tmod a0 (200 : Int)) + (200 : Int))) (200 : Int)) ([v5, [67, 79, 85, 78, 84], [UInt8.ofNat (Int.toNat (IntKind.wrap .u8 (IntKind.wrap .i64 ((49 : Int) + (Int.tmod (IntKind.wrap .i64 ((Int.tmod a1 (9 : Int)) + (9 : Int))) (9 : Int))))))]])).bind fun r15 => (if (((((r15.2 : Int) != 0) || ((r15.1.f_From : Int) != v6)) || decide ((r15.1.f_To : Int) < r15.1.f_From)) || decide ((r15.1.f_To : Int) > Int.tmod (IntKind.wrap .i64 ((Int.tmod a0 (200 : Int)) + (200 : Int))) (200 : Int))) = true then some (Sum.inr (Sum.inr false)) else (if ((r15.1.f_Next : Int) == 0) = true then some (Sum.inr (Sum.inr (((r15.1.f_To : Int) == Int.tmod (IntKind.wrap .i64 ((Int.tmod a0 (200 : Int)) + (200 : Int))) (200 : Int))))) else (if (((r15.1.f_Next : Int) != r15.1.f_To) || ((r15.1.f_To : Int) == r15.1.f_From)) = true then some (Sum.inr (Sum.inr false)) else (F10 k r15.1.f_Next).bind fun r26 => some (Sum.inl (r26, r15.1.f_To, IntKind.wrap .i64 (v7 + (1 : Int))))))) else some (Sum.inr (Sum.inl ())))
def F3_l7 (k : Nat) (a0 : Int) (a1 : Int) : Nat → S × Int × Int → Option (Sum Unit Bool)
  | 0, _ => none
  | m + 1, lv => (F3_l7_b k a0 a1 lv).bind fun s => match s with | .inl lv => F3_l7 k a0 a1 m lv | .inr o => some o
def F3 (k : Nat) (a0 : Int) (a1 : Int) : Option (Bool) :=
  (F8 k ).bind fun r1 => (if (!r1) = true then some false else (F3_l7 k a0 a1 k ([48], 0, 0)).bind fun o27 => (match o27 with | (Sum.inl ()) => some false | (Sum.inr v13) => some v13))
set_option maxHeartbeats 8000000 in
theorem F3_ok {k : Nat} {a0 : Int} {a1 : Int} {r : Bool} (hg : F3 k a0 a1 = some r) : Ret cfg 3 [AV.int .i64 a0, AV.int .i64 a1] (AV.bool r) := by
  unfold F3 at hg
  refine Ret.of_body rfl rfl Try.func3 rfl (by simp [strs, stripL_bytes, cleanL_bytes, headOk_bytes]) (by simp [strs, stripL_bytes, cleanL_bytes, headOk_bytes]) ?_
  obtain ⟨fr, hfr⟩ : ∃ fr, fr = [AV.int .i64 a0, AV.int .i64 a1] ++ List.replicate (Try.f3.ntmps - [AV.int .i64 a0, AV.int .i64 a1].length) AV.undef := ⟨_, rfl⟩
  rw [← hfr]
  have hl : fr.length = 83 := by rw [hfr]; rfl
  have s0 : slotAt fr 0 = some (AV.int .i64 a0) := by rw [hfr]; first | rfl | simp [aR_eq, aR_eq]
  have s1 : slotAt fr 1 = some (AV.int .i64 a1) := by rw [hfr]; first | rfl | simp [aR_eq, aR_eq]
  clear hfr
  refine Ev.seq ?_
  refine Ev.region ?_
  apply EvOps.keep (h' := []) (d' := false) (fun fr => fr.length = 83 ∧ slotAt fr 0 = some (AV.int .i64 a0) ∧ slotAt fr 1 = some (AV.int .i64 a1))
  · intro call; simp [hl, s0, s1, ofBytes_length, bytesOf_ofBytes, stripL_bytes, cleanL_bytes, headOk_bytes, strs, minsA, minA, sliceA, buildSliceA, buildA, structPlaces, fillA, splice, bytesOf, TView_asked.av, TView_Page.av, aR_eq, aR_eq]; exact rfl
  · exact ⟨by simp [hl], by simp [hl, s0, s1, ofBytes_length, bytesOf_ofBytes, stripL_bytes, cleanL_bytes, headOk_bytes, strs, minsA, minA, sliceA, buildSliceA, buildA, structPlaces, fillA, splice, bytesOf, TView_asked.av, TView_Page.av, aR_eq, aR_eq], by simp [hl, s0, s1, ofBytes_length, bytesOf_ofBytes, stripL_bytes, cleanL_bytes, headOk_bytes, strs, minsA, minA, sliceA, buildSliceA, buildA, structPlaces, fillA, splice, bytesOf, TView_asked.av, TView_Page.av, aR_eq, aR_eq]⟩
  clear hl s0 s1 fr
  rintro fr ⟨hl, s0, s1⟩
  refine Ev.seq ?_
  refine Ev.seq ?_
  refine Ev.region ?_
  obtain ⟨r1, er1, hg⟩ := bind_some hg
  refine EvOps.call rfl (by simp [hl, s0, s1, ofBytes_length, bytesOf_ofBytes, stripL_bytes, cleanL_bytes, headOk_bytes, strs, minsA, minA, sliceA, buildSliceA, buildA, structPlaces, fillA, splice, bytesOf, TView_asked.av, TView_Page.av, aR_eq, aR_eq]) (by simp [hl, s0, s1, ofBytes_length, bytesOf_ofBytes, stripL_bytes, cleanL_bytes, headOk_bytes, strs, minsA, minA, sliceA, buildSliceA, buildA, structPlaces, fillA, splice, bytesOf, TView_asked.av, TView_Page.av, aR_eq, aR_eq] <;> exact rfl) (by simp [hl, s0, s1, ofBytes_length, bytesOf_ofBytes, stripL_bytes, cleanL_bytes, headOk_bytes, strs, minsA, minA, sliceA, buildSliceA, buildA, structPlaces, fillA, splice, bytesOf, TView_asked.av, TView_Page.av, aR_eq, aR_eq] <;> exact rfl) (F8_ok er1) ?_
  apply EvOps.keep (h' := []) (d' := false) (fun fr => fr.length = 83 ∧ slotAt fr 0 = some (AV.int .i64 a0) ∧ slotAt fr 1 = some (AV.int .i64 a1) ∧ slotAt fr 13 = some (AV.bool ((!r1))))
  · intro call; simp [hl, s0, s1, ofBytes_length, bytesOf_ofBytes, stripL_bytes, cleanL_bytes, headOk_bytes, strs, minsA, minA, sliceA, buildSliceA, buildA, structPlaces, fillA, splice, bytesOf, TView_asked.av, TView_Page.av, aR_eq, aR_eq]; exact rfl
  · exact ⟨by simp [hl], by simp [hl, s0, s1, ofBytes_length, bytesOf_ofBytes, stripL_bytes, cleanL_bytes, headOk_bytes, strs, minsA, minA, sliceA, buildSliceA, buildA, structPlaces, fillA, splice, bytesOf, TView_asked.av, TView_Page.av, aR_eq, aR_eq], by simp [hl, s0, s1, ofBytes_length, bytesOf_ofBytes, stripL_bytes, cleanL_bytes, headOk_bytes, strs, minsA, minA, sliceA, buildSliceA, buildA, structPlaces, fillA, splice, bytesOf, TView_asked.av, TView_Page.av, aR_eq, aR_eq], by simp [hl, s0, s1, ofBytes_length, bytesOf_ofBytes, stripL_bytes, cleanL_bytes, headOk_bytes, strs, minsA, minA, sliceA, buildSliceA, buildA, structPlaces, fillA, splice, bytesOf, TView_asked.av, TView_Page.av, aR_eq, aR_eq]⟩
  clear hl s0 s1 fr
  rintro fr ⟨hl, s0, s1, s13⟩
  refine Ev.cond ((!r1)) (by simp [hl, s0, s1, s13, ofBytes_length, bytesOf_ofBytes, stripL_bytes, cleanL_bytes, headOk_bytes, strs, minsA, minA, sliceA, buildSliceA, buildA, structPlaces, fillA, splice, bytesOf, TView_asked.av, TView_Page.av, aR_eq, aR_eq]) (fun h_2 => ?_) (fun h_2 => ?_)
  · rw [if_pos h_2] at hg
    refine Ev.seq ?_
    refine Ev.region ?_
    apply EvOps.keep (h' := []) (d' := false) (fun fr => fr.length = 83 ∧ slotAt fr 4 = some (AV.bool false))
    · intro call; simp [hl, s0, s1, s13, ofBytes_length, bytesOf_ofBytes, stripL_bytes, cleanL_bytes, headOk_bytes, strs, minsA, minA, sliceA, buildSliceA, buildA, structPlaces, fillA, splice, bytesOf, TView_asked.av, TView_Page.av, aR_eq, aR_eq]; exact rfl
    · exact ⟨by simp [hl], by simp [hl, s0, s1, s13, ofBytes_length, bytesOf_ofBytes, stripL_bytes, cleanL_bytes, headOk_bytes, strs, minsA, minA, sliceA, buildSliceA, buildA, structPlaces, fillA, splice, bytesOf, TView_asked.av, TView_Page.av, aR_eq, aR_eq]⟩
    clear hl s0 s1 s13 fr
    rintro fr ⟨hl, s4⟩
    refine Ev.ret ?_
    have hs := Option.some.inj hg; subst hs
    exact ⟨AV.bool false, by simp [Try.f3, hl, s4, ofBytes_length, bytesOf_ofBytes, stripL_bytes, cleanL_bytes, headOk_bytes, strs, minsA, minA, sliceA, buildSliceA, buildA, structPlaces, fillA, splice, bytesOf, TView_asked.av, TView_Page.av, aR_eq, aR_eq] <;> exact rfl, by simp [strs, TView_asked.av, TView_Page.av, aR_eq, aR_eq]⟩
  · rw [if_neg (by rw [h_2]; simp)] at hg
    refine Ev.skip ?_
    refine Ev.seq ?_
    refine Ev.region ?_
    apply EvOps.keep (h' := []) (d' := false) (fun fr => fr.length = 83 ∧ slotAt fr 1 = some (AV.int .i64 a1) ∧ slotAt fr 5 = some (AV.int .i64 (Int.tmod (IntKind.wrap .i64 ((Int.tmod a0 (200 : Int)) + (200 : Int))) (200 : Int))))
    · intro call; simp [hl, s0, s1, s13, ofBytes_length, bytesOf_ofBytes, stripL_bytes, cleanL_bytes, headOk_bytes, strs, minsA, minA, sliceA, buildSliceA, buildA, structPlaces, fillA, splice, bytesOf, TView_asked.av, TView_Page.av, aR_eq, aR_eq]; exact rfl
    · exact ⟨by simp [hl], by simp [hl, s0, s1, s13, ofBytes_length, bytesOf_ofBytes, stripL_bytes, cleanL_bytes, headOk_bytes, strs, minsA, minA, sliceA, buildSliceA, buildA, structPlaces, fillA, splice, bytesOf, TView_asked.av, TView_Page.av, aR_eq, aR_eq], by simp [hl, s0, s1, s13, ofBytes_length, bytesOf_ofBytes, stripL_bytes, cleanL_bytes, headOk_bytes, strs, minsA, minA, sliceA, buildSliceA, buildA, structPlaces, fillA, splice, bytesOf, TView_asked.av, TView_Page.av, aR_eq, aR_eq]⟩
    clear hl s0 s1 s13 fr
    rintro fr ⟨hl, s1, s5⟩
    refine Ev.seq ?_
    refine Ev.region ?_
    apply EvOps.keep (h' := []) (d' := false) (fun fr => fr.length = 83 ∧ slotAt fr 5 = some (AV.int .i64 (Int.tmod (IntKind.wrap .i64 ((Int.tmod a0 (200 : Int)) + (200 : Int))) (200 : Int))) ∧ slotAt fr 6 = some (AV.str [UInt8.ofNat (Int.toNat (IntKind.wrap .u8 (IntKind.wrap .i64 ((49 : Int) + (Int.tmod (IntKind.wrap .i64 ((Int.tmod a1 (9 : Int)) + (9 : Int))) (9 : Int))))))]))
    · intro call; simp [hl, s1, s5, ofBytes_length, bytesOf_ofBytes, stripL_bytes, cleanL_bytes, headOk_bytes, strs, minsA, minA, sliceA, buildSliceA, buildA, structPlaces, fillA, splice, bytesOf, TView_asked.av, TView_Page.av, aR_eq, aR_eq]; exact rfl
    · exact ⟨by simp [hl], by simp [hl, s1, s5, ofBytes_length, bytesOf_ofBytes, stripL_bytes, cleanL_bytes, headOk_bytes, strs, minsA, minA, sliceA, buildSliceA, buildA, structPlaces, fillA, splice, bytesOf, TView_asked.av, TView_Page.av, aR_eq, aR_eq], by simp [hl, s1, s5, ofBytes_length, bytesOf_ofBytes, stripL_bytes, cleanL_bytes, headOk_bytes, strs, minsA, minA, sliceA, buildSliceA, buildA, structPlaces, fillA, splice, bytesOf, TView_asked.av, TView_Page.av, aR_eq, aR_eq]⟩
    clear hl s1 s5 fr
    rintro fr ⟨hl, s5, s6⟩
    refine Ev.seq ?_
    refine Ev.region ?_
    apply EvOps.keep (h' := []) (d' := false) (fun fr => fr.length = 83 ∧ slotAt fr 5 = some (AV.int .i64 (Int.tmod (IntKind.wrap .i64 ((Int.tmod a0 (200 : Int)) + (200 : Int))) (200 : Int))) ∧ slotAt fr 6 = some (AV.str [UInt8.ofNat (Int.toNat (IntKind.wrap .u8 (IntKind.wrap .i64 ((49 : Int) + (Int.tmod (IntKind.wrap .i64 ((Int.tmod a1 (9 : Int)) + (9 : Int))) (9 : Int))))))]) ∧ slotAt fr 7 = some (AV.str [48]))
    · intro call; simp [hl, s5, s6, ofBytes_length, bytesOf_ofBytes, stripL_bytes, cleanL_bytes, headOk_bytes, strs, minsA, minA, sliceA, buildSliceA, buildA, structPlaces, fillA, splice, bytesOf, TView_asked.av, TView_Page.av, aR_eq, aR_eq]; exact rfl
    · exact ⟨by simp [hl], by simp [hl, s5, s6, ofBytes_length, bytesOf_ofBytes, stripL_bytes, cleanL_bytes, headOk_bytes, strs, minsA, minA, sliceA, buildSliceA, buildA, structPlaces, fillA, splice, bytesOf, TView_asked.av, TView_Page.av, aR_eq, aR_eq], by simp [hl, s5, s6, ofBytes_length, bytesOf_ofBytes, stripL_bytes, cleanL_bytes, headOk_bytes, strs, minsA, minA, sliceA, buildSliceA, buildA, structPlaces, fillA, splice, bytesOf, TView_asked.av, TView_Page.av, aR_eq, aR_eq], by simp [hl, s5, s6, ofBytes_length, bytesOf_ofBytes, stripL_bytes, cleanL_bytes, headOk_bytes, strs, minsA, minA, sliceA, buildSliceA, buildA, structPlaces, fillA, splice, bytesOf, TView_asked.av, TView_Page.av, aR_eq, aR_eq]⟩
    clear hl s5 s6 fr
    rintro fr ⟨hl, s5, s6, s7⟩
    refine Ev.seq ?_
    refine Ev.region ?_
    apply EvOps.keep (h' := []) (d' := false) (fun fr => fr.length = 83 ∧ slotAt fr 5 = some (AV.int .i64 (Int.tmod (IntKind.wrap .i64 ((Int.tmod a0 (200 : Int)) + (200 : Int))) (200 : Int))) ∧ slotAt fr 6 = some (AV.str [UInt8.ofNat (Int.toNat (IntKind.wrap .u8 (IntKind.wrap .i64 ((49 : Int) + (Int.tmod (IntKind.wrap .i64 ((Int.tmod a1 (9 : Int)) + (9 : Int))) (9 : Int))))))]) ∧ slotAt fr 7 = some (AV.str [48]) ∧ slotAt fr 8 = some (AV.int .i64 0))
    · intro call; simp [hl, s5, s6, s7, ofBytes_length, bytesOf_ofBytes, stripL_bytes, cleanL_bytes, headOk_bytes, strs, minsA, minA, sliceA, buildSliceA, buildA, structPlaces, fillA, splice, bytesOf, TView_asked.av, TView_Page.av, aR_eq, aR_eq]; exact rfl
    · exact ⟨by simp [hl], by simp [hl, s5, s6, s7, ofBytes_length, bytesOf_ofBytes, stripL_bytes, cleanL_bytes, headOk_bytes, strs, minsA, minA, sliceA, buildSliceA, buildA, structPlaces, fillA, splice, bytesOf, TView_asked.av, TView_Page.av, aR_eq, aR_eq], by simp [hl, s5, s6, s7, ofBytes_length, bytesOf_ofBytes, stripL_bytes, cleanL_bytes, headOk_bytes, strs, minsA, minA, sliceA, buildSliceA, buildA, structPlaces, fillA, splice, bytesOf, TView_asked.av, TView_Page.av, aR_eq, aR_eq], by simp [hl, s5, s6, s7, ofBytes_length, bytesOf_ofBytes, stripL_bytes, cleanL_bytes, headOk_bytes, strs, minsA, minA, sliceA, buildSliceA, buildA, structPlaces, fillA, splice, bytesOf, TView_asked.av, TView_Page.av, aR_eq, aR_eq], by simp [hl, s5, s6, s7, ofBytes_length, bytesOf_ofBytes, stripL_bytes, cleanL_bytes, headOk_bytes, strs, minsA, minA, sliceA, buildSliceA, buildA, structPlaces, fillA, splice, bytesOf, TView_asked.av, TView_Page.av, aR_eq, aR_eq]⟩
    clear hl s5 s6 s7 fr
    rintro fr ⟨hl, s5, s6, s7, s8⟩
    refine Ev.seq ?_
    refine Ev.seq ?_
    refine Ev.region ?_
    apply EvOps.keep (h' := []) (d' := false) (fun fr => fr.length = 83 ∧ slotAt fr 5 = some (AV.int .i64 (Int.tmod (IntKind.wrap .i64 ((Int.tmod a0 (200 : Int)) + (200 : Int))) (200 : Int))) ∧ slotAt fr 6 = some (AV.str [UInt8.ofNat (Int.toNat (IntKind.wrap .u8 (IntKind.wrap .i64 ((49 : Int) + (Int.tmod (IntKind.wrap .i64 ((Int.tmod a1 (9 : Int)) + (9 : Int))) (9 : Int))))))]) ∧ slotAt fr 7 = some (AV.str [48]) ∧ slotAt fr 8 = some (AV.int .i64 0) ∧ slotAt fr 9 = some (AV.int .i64 0))
    · intro call; simp [hl, s5, s6, s7, s8, ofBytes_length, bytesOf_ofBytes, stripL_bytes, cleanL_bytes, headOk_bytes, strs, minsA, minA, sliceA, buildSliceA, buildA, structPlaces, fillA, splice, bytesOf, TView_asked.av, TView_Page.av, aR_eq, aR_eq]; exact rfl
    · exact ⟨by simp [hl], by simp [hl, s5, s6, s7, s8, ofBytes_length, bytesOf_ofBytes, stripL_bytes, cleanL_bytes, headOk_bytes, strs, minsA, minA, sliceA, buildSliceA, buildA, structPlaces, fillA, splice, bytesOf, TView_asked.av, TView_Page.av, aR_eq, aR_eq], by simp [hl, s5, s6, s7, s8, ofBytes_length, bytesOf_ofBytes, stripL_bytes, cleanL_bytes, headOk_bytes, strs, minsA, minA, sliceA, buildSliceA, buildA, structPlaces, fillA, splice, bytesOf, TView_asked.av, TView_Page.av, aR_eq, aR_eq], by simp [hl, s5, s6, s7, s8, ofBytes_length, bytesOf_ofBytes, stripL_bytes, cleanL_bytes, headOk_bytes, strs, minsA, minA, sliceA, buildSliceA, buildA, structPlaces, fillA, splice, bytesOf, TView_asked.av, TView_Page.av, aR_eq, aR_eq], by simp [hl, s5, s6, s7, s8, ofBytes_length, bytesOf_ofBytes, stripL_bytes, cleanL_bytes, headOk_bytes, strs, minsA, minA, sliceA, buildSliceA, buildA, structPlaces, fillA, splice, bytesOf, TView_asked.av, TView_Page.av, aR_eq, aR_eq], by simp [hl, s5, s6, s7, s8, ofBytes_length, bytesOf_ofBytes, stripL_bytes, cleanL_bytes, headOk_bytes, strs, minsA, minA, sliceA, buildSliceA, buildA, structPlaces, fillA, splice, bytesOf, TView_asked.av, TView_Page.av, aR_eq, aR_eq]⟩
    clear hl s5 s6 s7 s8 fr
    rintro fr ⟨hl, s5, s6, s7, s8, s9⟩
    refine Ev.block ?_
    obtain ⟨o27, eo27, hg⟩ := bind_some hg
    refine Ev.loopJ (fun x st => (x = .exit 0 ∧ ∃ (fr : List AV) (h9 : Heap) (d10 : Bool), st = ⟨fr, h9, d10⟩ ∧ fr.length = 83 ∧ o27 = (Sum.inl ())) ∨ (x = .ret ∧ ∃ (fr : List AV) (h11 : Heap) (d12 : Bool) (v13 : Bool), st = ⟨fr, h11, d12⟩ ∧ fr.length = 83 ∧ slotAt fr 4 = some (AV.bool v13) ∧ o27 = (Sum.inr v13))) (fun m st => ∃ (fr : List AV) (h3 : Heap) (d4 : Bool) (v5 : S) (v6 : Int) (v7 : Int), st = ⟨fr, h3, d4⟩ ∧ fr.length = 83 ∧ slotAt fr 5 = some (AV.int .i64 (Int.tmod (IntKind.wrap .i64 ((Int.tmod a0 (200 : Int)) + (200 : Int))) (200 : Int))) ∧ slotAt fr 6 = some (AV.str [UInt8.ofNat (Int.toNat (IntKind.wrap .u8 (IntKind.wrap .i64 ((49 : Int) + (Int.tmod (IntKind.wrap .i64 ((Int.tmod a1 (9 : Int)) + (9 : Int))) (9 : Int))))))]) ∧ slotAt fr 7 = some (AV.str v5) ∧ slotAt fr 8 = some (AV.int .i64 v6) ∧ slotAt fr 9 = some (AV.int .i64 v7) ∧ F3_l7 k a0 a1 m (v5, v6, v7) = some o27) k _ ?_ ?_ ?_
    · exact ⟨_, [], false, [48], 0, 0, rfl, hl, by simp [hl, s5, s6, s7, s8, s9, ofBytes_length, bytesOf_ofBytes, stripL_bytes, cleanL_bytes, headOk_bytes, strs, minsA, minA, sliceA, buildSliceA, buildA, structPlaces, fillA, splice, bytesOf, TView_asked.av, TView_Page.av, aR_eq, aR_eq], by simp [hl, s5, s6, s7, s8, s9, ofBytes_length, bytesOf_ofBytes, stripL_bytes, cleanL_bytes, headOk_bytes, strs, minsA, minA, sliceA, buildSliceA, buildA, structPlaces, fillA, splice, bytesOf, TView_asked.av, TView_Page.av, aR_eq, aR_eq], by simp [hl, s5, s6, s7, s8, s9, ofBytes_length, bytesOf_ofBytes, stripL_bytes, cleanL_bytes, headOk_bytes, strs, minsA, minA, sliceA, buildSliceA, buildA, structPlaces, fillA, splice, bytesOf, TView_asked.av, TView_Page.av, aR_eq, aR_eq], by simp [hl, s5, s6, s7, s8, s9, ofBytes_length, bytesOf_ofBytes, stripL_bytes, cleanL_bytes, headOk_bytes, strs, minsA, minA, sliceA, buildSliceA, buildA, structPlaces, fillA, splice, bytesOf, TView_asked.av, TView_Page.av, aR_eq, aR_eq], by simp [hl, s5, s6, s7, s8, s9, ofBytes_length, bytesOf_ofBytes, stripL_bytes, cleanL_bytes, headOk_bytes, strs, minsA, minA, sliceA, buildSliceA, buildA, structPlaces, fillA, splice, bytesOf, TView_asked.av, TView_Page.av, aR_eq, aR_eq], eo27⟩
    · clear hg eo27 hl s5 s6 s7 s8 s9 fr
      rintro m st ⟨fr, h3, d4, v5, v6, v7, rfl, hl, s5, s6, s7, s8, s9, hg⟩
      cases m with
      | zero => simp [F3_l7] at hg
      | succ m =>
      rw [F3_l7] at hg
      obtain ⟨s, hb, hstep⟩ := bind_some hg
      clear hg
      have hg := hb; clear hb
      unfold F3_l7_b at hg
      try dsimp only at hg
      refine Ev.seq ?_
      refine Ev.seq ?_
      refine Ev.region ?_
      apply EvOps.keep (h' := h3) (d' := d4) (fun fr => fr.length = 83 ∧ slotAt fr 5 = some (AV.int .i64 (Int.tmod (IntKind.wrap .i64 ((Int.tmod a0 (200 : Int)) + (200 : Int))) (200 : Int))) ∧ slotAt fr 6 = some (AV.str [UInt8.ofNat (Int.toNat (IntKind.wrap .u8 (IntKind.wrap .i64 ((49 : Int) + (Int.tmod (IntKind.wrap .i64 ((Int.tmod a1 (9 : Int)) + (9 : Int))) (9 : Int))))))]) ∧ slotAt fr 7 = some (AV.str v5) ∧ slotAt fr 8 = some (AV.int .i64 v6) ∧ slotAt fr 9 = some (AV.int .i64 v7) ∧ slotAt fr 27 = some (AV.bool (decide ((v7 : Int) < 300))))
      · intro call; simp [hl, s5, s6, s7, s8, s9, ofBytes_length, bytesOf_ofBytes, stripL_bytes, cleanL_bytes, headOk_bytes, strs, minsA, minA, sliceA, buildSliceA, buildA, structPlaces, fillA, splice, bytesOf, TView_asked.av, TView_Page.av, aR_eq, aR_eq]; exact rfl
      · exact ⟨by simp [hl], by simp [hl, s5, s6, s7, s8, s9, ofBytes_length, bytesOf_ofBytes, stripL_bytes, cleanL_bytes, headOk_bytes, strs, minsA, minA, sliceA, buildSliceA, buildA, structPlaces, fillA, splice, bytesOf, TView_asked.av, TView_Page.av, aR_eq, aR_eq], by simp [hl, s5, s6, s7, s8, s9, ofBytes_length, bytesOf_ofBytes, stripL_bytes, cleanL_bytes, headOk_bytes, strs, minsA, minA, sliceA, buildSliceA, buildA, structPlaces, fillA, splice, bytesOf, TView_asked.av, TView_Page.av, aR_eq, aR_eq], by simp [hl, s5, s6, s7, s8, s9, ofBytes_length, bytesOf_ofBytes, stripL_bytes, cleanL_bytes, headOk_bytes, strs, minsA, minA, sliceA, buildSliceA, buildA, structPlaces, fillA, splice, bytesOf, TView_asked.av, TView_Page.av, aR_eq, aR_eq], by simp [hl, s5, s6, s7, s8, s9, ofBytes_length, bytesOf_ofBytes, stripL_bytes, cleanL_bytes, headOk_bytes, strs, minsA, minA, sliceA, buildSliceA, buildA, structPlaces, fillA, splice, bytesOf, TView_asked.av, TView_Page.av, aR_eq, aR_eq], by simp [hl, s5, s6, s7, s8, s9, ofBytes_length, bytesOf_ofBytes, stripL_bytes, cleanL_bytes, headOk_bytes, strs, minsA, minA, sliceA, buildSliceA, buildA, structPlaces, fillA, splice, bytesOf, TView_asked.av, TView_Page.av, aR_eq, aR_eq], by simp [hl, s5, s6, s7, s8, s9, ofBytes_length, bytesOf_ofBytes, stripL_bytes, cleanL_bytes, headOk_bytes, strs, minsA, minA, sliceA, buildSliceA, buildA, structPlaces, fillA, splice, bytesOf, TView_asked.av, TView_Page.av, aR_eq, aR_eq]⟩
      clear hl s5 s6 s7 s8 s9 fr
      rintro fr ⟨hl, s5, s6, s7, s8, s9, s27⟩
      refine Ev.cond (decide ((v7 : Int) < 300)) (by simp [hl, s5, s6, s7, s8, s9, s27, ofBytes_length, bytesOf_ofBytes, stripL_bytes, cleanL_bytes, headOk_bytes, strs, minsA, minA, sliceA, buildSliceA, buildA, structPlaces, fillA, splice, bytesOf, TView_asked.av, TView_Page.av, aR_eq, aR_eq]) (fun h_14 => ?_) (fun h_14 => ?_)
      · rw [if_pos h_14] at hg
        refine Ev.skip ?_
        refine Ev.seq ?_
        refine Ev.block ?_
        refine Ev.seq ?_
        refine Ev.region ?_
        obtain ⟨r15, er15, hg⟩ := bind_some hg
        refine EvOps.take 4 ?_
        apply EvOps.run
        · intro call; simp [hl, s5, s6, s7, s8, s9, s27, ofBytes_length, bytesOf_ofBytes, stripL_bytes, cleanL_bytes, headOk_bytes, strs, minsA, minA, sliceA, buildSliceA, buildA, structPlaces, fillA, splice, bytesOf, TView_asked.av, TView_Page.av, aR_eq, aR_eq]; exact rfl
        refine EvOps.call rfl (by simp [hl, s5, s6, s7, s8, s9, s27, ofBytes_length, bytesOf_ofBytes, stripL_bytes, cleanL_bytes, headOk_bytes, strs, minsA, minA, sliceA, buildSliceA, buildA, structPlaces, fillA, splice, bytesOf, TView_asked.av, TView_Page.av, aR_eq, aR_eq]) (by simp [hl, s5, s6, s7, s8, s9, s27, ofBytes_length, bytesOf_ofBytes, stripL_bytes, cleanL_bytes, headOk_bytes, strs, minsA, minA, sliceA, buildSliceA, buildA, structPlaces, fillA, splice, bytesOf, TView_asked.av, TView_Page.av, aR_eq, aR_eq] <;> exact rfl) (by simp [hl, s5, s6, s7, s8, s9, s27, ofBytes_length, bytesOf_ofBytes, stripL_bytes, cleanL_bytes, headOk_bytes, strs, minsA, minA, sliceA, buildSliceA, buildA, structPlaces, fillA, splice, bytesOf, TView_asked.av, TView_Page.av, aR_eq, aR_eq] <;> exact rfl) (F9_ok er15) ?_
        refine EvOps.take 3 ?_
        apply EvOps.run
        · intro call; simp [hl, s5, s6, s7, s8, s9, s27, ofBytes_length, bytesOf_ofBytes, stripL_bytes, cleanL_bytes, headOk_bytes, strs, minsA, minA, sliceA, buildSliceA, buildA, structPlaces, fillA, splice, bytesOf, TView_asked.av, TView_Page.av, aR_eq, aR_eq]; exact rfl
        refine EvOps.allocR (cs := [AV.int .i64 0, AV.int .i64 0, AV.int .i64 0, AV.str []]) rfl (by simp [hl, s5, s6, s7, s8, s9, s27, ofBytes_length, bytesOf_ofBytes, stripL_bytes, cleanL_bytes, headOk_bytes, strs, minsA, minA, sliceA, buildSliceA, buildA, structPlaces, fillA, splice, bytesOf, TView_asked.av, TView_Page.av, aR_eq, aR_eq]) Ty.z25 (by simp) (by simp) ?_
        intro h17 b16 ex
        have o_b16 := ex.get
        clear ex
        refine EvOps.storeR (b := b16) (off := 0) (vs := [AV.int .i64 r15.1.f_From, AV.int .i64 r15.1.f_To, AV.int .i64 r15.1.f_Next, AV.str r15.1.f_Match]) (cs' := [AV.int .i64 r15.1.f_From, AV.int .i64 r15.1.f_To, AV.int .i64 r15.1.f_Next, AV.str r15.1.f_Match]) rfl (by simp [hl, s5, s6, s7, s8, s9, s27, o_b16, ofBytes_length, bytesOf_ofBytes, stripL_bytes, cleanL_bytes, headOk_bytes, strs, minsA, minA, sliceA, buildSliceA, buildA, structPlaces, fillA, splice, bytesOf, TView_asked.av, TView_Page.av, aR_eq, aR_eq]) (by simp [hl, s5, s6, s7, s8, s9, s27, o_b16, ofBytes_length, bytesOf_ofBytes, stripL_bytes, cleanL_bytes, headOk_bytes, strs, minsA, minA, sliceA, buildSliceA, buildA, structPlaces, fillA, splice, bytesOf, TView_asked.av, TView_Page.av, aR_eq, aR_eq] <;> exact rfl) (by simp [hl, s5, s6, s7, s8, s9, s27, o_b16, ofBytes_length, bytesOf_ofBytes, stripL_bytes, cleanL_bytes, headOk_bytes, strs, minsA, minA, sliceA, buildSliceA, buildA, structPlaces, fillA, splice, bytesOf, TView_asked.av, TView_Page.av, aR_eq, aR_eq] <;> exact rfl) o_b16 (by simp [hl, s5, s6, s7, s8, s9, s27, o_b16, ofBytes_length, bytesOf_ofBytes, stripL_bytes, cleanL_bytes, headOk_bytes, strs, minsA, minA, sliceA, buildSliceA, buildA, structPlaces, fillA, splice, bytesOf, TView_asked.av, TView_Page.av, aR_eq, aR_eq]) (by simp) (by simp) (by simp [AV.one]) (by simp [splice]) ?_
        intro h18 up
        have o_b16 := up.get
        clear up
        apply EvOps.keep (h' := h18) (d' := d4) (fun fr => fr.length = 83 ∧ slotAt fr 5 = some (AV.int .i64 (Int.tmod (IntKind.wrap .i64 ((Int.tmod a0 (200 : Int)) + (200 : Int))) (200 : Int))) ∧ slotAt fr 6 = some (AV.str [UInt8.ofNat (Int.toNat (IntKind.wrap .u8 (IntKind.wrap .i64 ((49 : Int) + (Int.tmod (IntKind.wrap .i64 ((Int.tmod a1 (9 : Int)) + (9 : Int))) (9 : Int))))))]) ∧ slotAt fr 8 = some (AV.int .i64 v6) ∧ slotAt fr 9 = some (AV.int .i64 v7) ∧ slotAt fr 10 = some (AV.ptr b16 0) ∧ slotAt fr 11 = some (AV.int .i64 r15.2))
        · intro call; simp [hl, s5, s6, s7, s8, s9, s27, o_b16, ofBytes_length, bytesOf_ofBytes, stripL_bytes, cleanL_bytes, headOk_bytes, strs, minsA, minA, sliceA, buildSliceA, buildA, structPlaces, fillA, splice, bytesOf, TView_asked.av, TView_Page.av, aR_eq, aR_eq]; exact rfl
        · exact ⟨by simp [hl], by simp [hl, s5, s6, s7, s8, s9, s27, o_b16, ofBytes_length, bytesOf_ofBytes, stripL_bytes, cleanL_bytes, headOk_bytes, strs, minsA, minA, sliceA, buildSliceA, buildA, structPlaces, fillA, splice, bytesOf, TView_asked.av, TView_Page.av, aR_eq, aR_eq], by simp [hl, s5, s6, s7, s8, s9, s27, o_b16, ofBytes_length, bytesOf_ofBytes, stripL_bytes, cleanL_bytes, headOk_bytes, strs, minsA, minA, sliceA, buildSliceA, buildA, structPlaces, fillA, splice, bytesOf, TView_asked.av, TView_Page.av, aR_eq, aR_eq], by simp [hl, s5, s6, s7, s8, s9, s27, o_b16, ofBytes_length, bytesOf_ofBytes, stripL_bytes, cleanL_bytes, headOk_bytes, strs, minsA, minA, sliceA, buildSliceA, buildA, structPlaces, fillA, splice, bytesOf, TView_asked.av, TView_Page.av, aR_eq, aR_eq], by simp [hl, s5, s6, s7, s8, s9, s27, o_b16, ofBytes_length, bytesOf_ofBytes, stripL_bytes, cleanL_bytes, headOk_bytes, strs, minsA, minA, sliceA, buildSliceA, buildA, structPlaces, fillA, splice, bytesOf, TView_asked.av, TView_Page.av, aR_eq, aR_eq], by simp [hl, s5, s6, s7, s8, s9, s27, o_b16, ofBytes_length, bytesOf_ofBytes, stripL_bytes, cleanL_bytes, headOk_bytes, strs, minsA, minA, sliceA, buildSliceA, buildA, structPlaces, fillA, splice, bytesOf, TView_asked.av, TView_Page.av, aR_eq, aR_eq], by simp [hl, s5, s6, s7, s8, s9, s27, o_b16, ofBytes_length, bytesOf_ofBytes, stripL_bytes, cleanL_bytes, headOk_bytes, strs, minsA, minA, sliceA, buildSliceA, buildA, structPlaces, fillA, splice, bytesOf, TView_asked.av, TView_Page.av, aR_eq, aR_eq]⟩
        clear hl s5 s6 s7 s8 s9 s27 fr
        rintro fr ⟨hl, s5, s6, s8, s9, s10, s11⟩
        refine Ev.seq ?_
        refine Ev.seq ?_
        refine Ev.region ?_
        refine EvOps.mono (Q := fun st => ∃ fr, st = ⟨fr, h18, d4⟩ ∧ fr.length = 83 ∧ slotAt fr 5 = some (AV.int .i64 (Int.tmod (IntKind.wrap .i64 ((Int.tmod a0 (200 : Int)) + (200 : Int))) (200 : Int))) ∧ slotAt fr 6 = some (AV.str [UInt8.ofNat (Int.toNat (IntKind.wrap .u8 (IntKind.wrap .i64 ((49 : Int) + (Int.tmod (IntKind.wrap .i64 ((Int.tmod a1 (9 : Int)) + (9 : Int))) (9 : Int))))))]) ∧ slotAt fr 9 = some (AV.int .i64 v7) ∧ slotAt fr 10 = some (AV.ptr b16 0) ∧ slotAt fr 58 = some (AV.bool ((((((r15.2 : Int) != 0) || ((r15.1.f_From : Int) != v6)) || decide ((r15.1.f_To : Int) < r15.1.f_From)) || decide ((r15.1.f_To : Int) > Int.tmod (IntKind.wrap .i64 ((Int.tmod a0 (200 : Int)) + (200 : Int))) (200 : Int)))))) ?_ ?_
        · refine EvOps.mid 8 (fun st => ∃ fr, st = ⟨fr, h18, d4⟩ ∧ fr.length = 83 ∧ slotAt fr 5 = some (AV.int .i64 (Int.tmod (IntKind.wrap .i64 ((Int.tmod a0 (200 : Int)) + (200 : Int))) (200 : Int))) ∧ slotAt fr 6 = some (AV.str [UInt8.ofNat (Int.toNat (IntKind.wrap .u8 (IntKind.wrap .i64 ((49 : Int) + (Int.tmod (IntKind.wrap .i64 ((Int.tmod a1 (9 : Int)) + (9 : Int))) (9 : Int))))))]) ∧ slotAt fr 9 = some (AV.int .i64 v7) ∧ slotAt fr 10 = some (AV.ptr b16 0) ∧ slotAt fr 45 = some (AV.bool ((((r15.2 : Int) != 0) || ((r15.1.f_From : Int) != v6))))) ?_ ?_
          · refine EvOps.take 3 ?_
            apply EvOps.run
            · intro call; simp [hl, s5, s6, s8, s9, s10, s11, o_b16, ofBytes_length, bytesOf_ofBytes, stripL_bytes, cleanL_bytes, headOk_bytes, strs, minsA, minA, sliceA, buildSliceA, buildA, structPlaces, fillA, splice, bytesOf, TView_asked.av, TView_Page.av, aR_eq, aR_eq]; exact rfl
            refine EvOps.gen (fun fr => fr.length = 83 ∧ slotAt fr 5 = some (AV.int .i64 (Int.tmod (IntKind.wrap .i64 ((Int.tmod a0 (200 : Int)) + (200 : Int))) (200 : Int))) ∧ slotAt fr 6 = some (AV.str [UInt8.ofNat (Int.toNat (IntKind.wrap .u8 (IntKind.wrap .i64 ((49 : Int) + (Int.tmod (IntKind.wrap .i64 ((Int.tmod a1 (9 : Int)) + (9 : Int))) (9 : Int))))))]) ∧ slotAt fr 8 = some (AV.int .i64 v6) ∧ slotAt fr 9 = some (AV.int .i64 v7) ∧ slotAt fr 10 = some (AV.ptr b16 0) ∧ slotAt fr 40 = some (AV.bool (((r15.2 : Int) != 0)))) ⟨by simp [hl], by simp [hl, s5, s6, s8, s9, s10, s11, o_b16, ofBytes_length, bytesOf_ofBytes, stripL_bytes, cleanL_bytes, headOk_bytes, strs, minsA, minA, sliceA, buildSliceA, buildA, structPlaces, fillA, splice, bytesOf, TView_asked.av, TView_Page.av, aR_eq, aR_eq], by simp [hl, s5, s6, s8, s9, s10, s11, o_b16, ofBytes_length, bytesOf_ofBytes, stripL_bytes, cleanL_bytes, headOk_bytes, strs, minsA, minA, sliceA, buildSliceA, buildA, structPlaces, fillA, splice, bytesOf, TView_asked.av, TView_Page.av, aR_eq, aR_eq], by simp [hl, s5, s6, s8, s9, s10, s11, o_b16, ofBytes_length, bytesOf_ofBytes, stripL_bytes, cleanL_bytes, headOk_bytes, strs, minsA, minA, sliceA, buildSliceA, buildA, structPlaces, fillA, splice, bytesOf, TView_asked.av, TView_Page.av, aR_eq, aR_eq], by simp [hl, s5, s6, s8, s9, s10, s11, o_b16, ofBytes_length, bytesOf_ofBytes, stripL_bytes, cleanL_bytes, headOk_bytes, strs, minsA, minA, sliceA, buildSliceA, buildA, structPlaces, fillA, splice, bytesOf, TView_asked.av, TView_Page.av, aR_eq, aR_eq], by simp [hl, s5, s6, s8, s9, s10, s11, o_b16, ofBytes_length, bytesOf_ofBytes, stripL_bytes, cleanL_bytes, headOk_bytes, strs, minsA, minA, sliceA, buildSliceA, buildA, structPlaces, fillA, splice, bytesOf, TView_asked.av, TView_Page.av, aR_eq, aR_eq], by simp [hl, s5, s6, s8, s9, s10, s11, o_b16, ofBytes_length, bytesOf_ofBytes, stripL_bytes, cleanL_bytes, headOk_bytes, strs, minsA, minA, sliceA, buildSliceA, buildA, structPlaces, fillA, splice, bytesOf, TView_asked.av, TView_Page.av, aR_eq, aR_eq]⟩ ?_
            clear hl s5 s6 s8 s9 s10 s11 fr
            rintro fr ⟨hl, s5, s6, s8, s9, s10, s40⟩
            obtain ⟨w19, hw19⟩ : ∃ b : Bool, b = (((r15.2 : Int) != 0)) := ⟨_, rfl⟩
            rw [← hw19] at s40
            cases w19 with
            | true =>
              apply EvOps.run
              · intro call; simp [hl, s5, s6, s8, s9, s10, s40, o_b16, ofBytes_length, bytesOf_ofBytes, stripL_bytes, cleanL_bytes, headOk_bytes, strs, minsA, minA, sliceA, buildSliceA, buildA, structPlaces, fillA, splice, bytesOf, TView_asked.av, TView_Page.av, aR_eq, aR_eq]; exact rfl
              exact ⟨_, rfl, by simp [hl], by simp [hl, s5, s6, s8, s9, s10, s40, o_b16, ofBytes_length, bytesOf_ofBytes, stripL_bytes, cleanL_bytes, headOk_bytes, strs, minsA, minA, sliceA, buildSliceA, buildA, structPlaces, fillA, splice, bytesOf, TView_asked.av, TView_Page.av, aR_eq, aR_eq], by simp [hl, s5, s6, s8, s9, s10, s40, o_b16, ofBytes_length, bytesOf_ofBytes, stripL_bytes, cleanL_bytes, headOk_bytes, strs, minsA, minA, sliceA, buildSliceA, buildA, structPlaces, fillA, splice, bytesOf, TView_asked.av, TView_Page.av, aR_eq, aR_eq], by simp [hl, s5, s6, s8, s9, s10, s40, o_b16, ofBytes_length, bytesOf_ofBytes, stripL_bytes, cleanL_bytes, headOk_bytes, strs, minsA, minA, sliceA, buildSliceA, buildA, structPlaces, fillA, splice, bytesOf, TView_asked.av, TView_Page.av, aR_eq, aR_eq], by simp [hl, s5, s6, s8, s9, s10, s40, o_b16, ofBytes_length, bytesOf_ofBytes, stripL_bytes, cleanL_bytes, headOk_bytes, strs, minsA, minA, sliceA, buildSliceA, buildA, structPlaces, fillA, splice, bytesOf, TView_asked.av, TView_Page.av, aR_eq, aR_eq], by first | (simp [hl, s5, s6, s8, s9, s10, s40, o_b16, ofBytes_length, bytesOf_ofBytes, stripL_bytes, cleanL_bytes, headOk_bytes, strs, minsA, minA, sliceA, buildSliceA, buildA, structPlaces, fillA, splice, bytesOf, TView_asked.av, TView_Page.av, aR_eq, aR_eq]; done) | ((try simp only [← hw19]); (first | done | simp [hl, s5, s6, s8, s9, s10, s40, o_b16, ofBytes_length, bytesOf_ofBytes, stripL_bytes, cleanL_bytes, headOk_bytes, strs, minsA, minA, sliceA, buildSliceA, buildA, structPlaces, fillA, splice, bytesOf, TView_asked.av, TView_Page.av, aR_eq, aR_eq]))⟩
            | false =>
              apply EvOps.run
              · intro call; simp [hl, s5, s6, s8, s9, s10, s40, o_b16, ofBytes_length, bytesOf_ofBytes, stripL_bytes, cleanL_bytes, headOk_bytes, strs, minsA, minA, sliceA, buildSliceA, buildA, structPlaces, fillA, splice, bytesOf, TView_asked.av, TView_Page.av, aR_eq, aR_eq]; exact rfl
              exact ⟨_, rfl, by simp [hl], by simp [hl, s5, s6, s8, s9, s10, s40, o_b16, ofBytes_length, bytesOf_ofBytes, stripL_bytes, cleanL_bytes, headOk_bytes, strs, minsA, minA, sliceA, buildSliceA, buildA, structPlaces, fillA, splice, bytesOf, TView_asked.av, TView_Page.av, aR_eq, aR_eq], by simp [hl, s5, s6, s8, s9, s10, s40, o_b16, ofBytes_length, bytesOf_ofBytes, stripL_bytes, cleanL_bytes, headOk_bytes, strs, minsA, minA, sliceA, buildSliceA, buildA, structPlaces, fillA, splice, bytesOf, TView_asked.av, TView_Page.av, aR_eq, aR_eq], by simp [hl, s5, s6, s8, s9, s10, s40, o_b16, ofBytes_length, bytesOf_ofBytes, stripL_bytes, cleanL_bytes, headOk_bytes, strs, minsA, minA, sliceA, buildSliceA, buildA, structPlaces, fillA, splice, bytesOf, TView_asked.av, TView_Page.av, aR_eq, aR_eq], by simp [hl, s5, s6, s8, s9, s10, s40, o_b16, ofBytes_length, bytesOf_ofBytes, stripL_bytes, cleanL_bytes, headOk_bytes, strs, minsA, minA, sliceA, buildSliceA, buildA, structPlaces, fillA, splice, bytesOf, TView_asked.av, TView_Page.av, aR_eq, aR_eq], by first | (simp [hl, s5, s6, s8, s9, s10, s40, o_b16, ofBytes_length, bytesOf_ofBytes, stripL_bytes, cleanL_bytes, headOk_bytes, strs, minsA, minA, sliceA, buildSliceA, buildA, structPlaces, fillA, splice, bytesOf, TView_asked.av, TView_Page.av, aR_eq, aR_eq]; done) | ((try simp only [← hw19]); (first | done | simp [hl, s5, s6, s8, s9, s10, s40, o_b16, ofBytes_length, bytesOf_ofBytes, stripL_bytes, cleanL_bytes, headOk_bytes, strs, minsA, minA, sliceA, buildSliceA, buildA, structPlaces, fillA, splice, bytesOf, TView_asked.av, TView_Page.av, aR_eq, aR_eq]))⟩
          · clear hl s5 s6 s8 s9 s10 s11 fr
            rintro st ⟨fr, rfl, hl, s5, s6, s9, s10, s45⟩
            refine EvOps.mid 7 (fun st => ∃ fr, st = ⟨fr, h18, d4⟩ ∧ fr.length = 83 ∧ slotAt fr 5 = some (AV.int .i64 (Int.tmod (IntKind.wrap .i64 ((Int.tmod a0 (200 : Int)) + (200 : Int))) (200 : Int))) ∧ slotAt fr 6 = some (AV.str [UInt8.ofNat (Int.toNat (IntKind.wrap .u8 (IntKind.wrap .i64 ((49 : Int) + (Int.tmod (IntKind.wrap .i64 ((Int.tmod a1 (9 : Int)) + (9 : Int))) (9 : Int))))))]) ∧ slotAt fr 9 = some (AV.int .i64 v7) ∧ slotAt fr 10 = some (AV.ptr b16 0) ∧ slotAt fr 52 = some (AV.bool (((((r15.2 : Int) != 0) || ((r15.1.f_From : Int) != v6)) || decide ((r15.1.f_To : Int) < r15.1.f_From))))) ?_ ?_
            · refine EvOps.take 1 ?_
              apply EvOps.run
              · intro call; simp [hl, s5, s6, s9, s10, s45, o_b16, ofBytes_length, bytesOf_ofBytes, stripL_bytes, cleanL_bytes, headOk_bytes, strs, minsA, minA, sliceA, buildSliceA, buildA, structPlaces, fillA, splice, bytesOf, TView_asked.av, TView_Page.av, aR_eq, aR_eq]; exact rfl
              refine EvOps.gen (fun fr => fr.length = 83 ∧ slotAt fr 5 = some (AV.int .i64 (Int.tmod (IntKind.wrap .i64 ((Int.tmod a0 (200 : Int)) + (200 : Int))) (200 : Int))) ∧ slotAt fr 6 = some (AV.str [UInt8.ofNat (Int.toNat (IntKind.wrap .u8 (IntKind.wrap .i64 ((49 : Int) + (Int.tmod (IntKind.wrap .i64 ((Int.tmod a1 (9 : Int)) + (9 : Int))) (9 : Int))))))]) ∧ slotAt fr 9 = some (AV.int .i64 v7) ∧ slotAt fr 10 = some (AV.ptr b16 0) ∧ slotAt fr 46 = some (AV.bool ((((r15.2 : Int) != 0) || ((r15.1.f_From : Int) != v6))))) ⟨by simp [hl], by simp [hl, s5, s6, s9, s10, s45, o_b16, ofBytes_length, bytesOf_ofBytes, stripL_bytes, cleanL_bytes, headOk_bytes, strs, minsA, minA, sliceA, buildSliceA, buildA, structPlaces, fillA, splice, bytesOf, TView_asked.av, TView_Page.av, aR_eq, aR_eq], by simp [hl, s5, s6, s9, s10, s45, o_b16, ofBytes_length, bytesOf_ofBytes, stripL_bytes, cleanL_bytes, headOk_bytes, strs, minsA, minA, sliceA, buildSliceA, buildA, structPlaces, fillA, splice, bytesOf, TView_asked.av, TView_Page.av, aR_eq, aR_eq], by simp [hl, s5, s6, s9, s10, s45, o_b16, ofBytes_length, bytesOf_ofBytes, stripL_bytes, cleanL_bytes, headOk_bytes, strs, minsA, minA, sliceA, buildSliceA, buildA, structPlaces, fillA, splice, bytesOf, TView_asked.av, TView_Page.av, aR_eq, aR_eq], by simp [hl, s5, s6, s9, s10, s45, o_b16, ofBytes_length, bytesOf_ofBytes, stripL_bytes, cleanL_bytes, headOk_bytes, strs, minsA, minA, sliceA, buildSliceA, buildA, structPlaces, fillA, splice, bytesOf, TView_asked.av, TView_Page.av, aR_eq, aR_eq], by simp [hl, s5, s6, s9, s10, s45, o_b16, ofBytes_length, bytesOf_ofBytes, stripL_bytes, cleanL_bytes, headOk_bytes, strs, minsA, minA, sliceA, buildSliceA, buildA, structPlaces, fillA, splice, bytesOf, TView_asked.av, TView_Page.av, aR_eq, aR_eq]⟩ ?_
              clear hl s5 s6 s9 s10 s45 fr
              rintro fr ⟨hl, s5, s6, s9, s10, s46⟩
              obtain ⟨w20, hw20⟩ : ∃ b : Bool, b = ((((r15.2 : Int) != 0) || ((r15.1.f_From : Int) != v6))) := ⟨_, rfl⟩
              rw [← hw20] at s46
              cases w20 with
              | true =>
                apply EvOps.run
                · intro call; simp [hl, s5, s6, s9, s10, s46, o_b16, ofBytes_length, bytesOf_ofBytes, stripL_bytes, cleanL_bytes, headOk_bytes, strs, minsA, minA, sliceA, buildSliceA, buildA, structPlaces, fillA, splice, bytesOf, TView_asked.av, TView_Page.av, aR_eq, aR_eq]; exact rfl
                exact ⟨_, rfl, by simp [hl], by simp [hl, s5, s6, s9, s10, s46, o_b16, ofBytes_length, bytesOf_ofBytes, stripL_bytes, cleanL_bytes, headOk_bytes, strs, minsA, minA, sliceA, buildSliceA, buildA, structPlaces, fillA, splice, bytesOf, TView_asked.av, TView_Page.av, aR_eq, aR_eq], by simp [hl, s5, s6, s9, s10, s46, o_b16, ofBytes_length, bytesOf_ofBytes, stripL_bytes, cleanL_bytes, headOk_bytes, strs, minsA, minA, sliceA, buildSliceA, buildA, structPlaces, fillA, splice, bytesOf, TView_asked.av, TView_Page.av, aR_eq, aR_eq], by simp [hl, s5, s6, s9, s10, s46, o_b16, ofBytes_length, bytesOf_ofBytes, stripL_bytes, cleanL_bytes, headOk_bytes, strs, minsA, minA, sliceA, buildSliceA, buildA, structPlaces, fillA, splice, bytesOf, TView_asked.av, TView_Page.av, aR_eq, aR_eq], by simp [hl, s5, s6, s9, s10, s46, o_b16, ofBytes_length, bytesOf_ofBytes, stripL_bytes, cleanL_bytes, headOk_bytes, strs, minsA, minA, sliceA, buildSliceA, buildA, structPlaces, fillA, splice, bytesOf, TView_asked.av, TView_Page.av, aR_eq, aR_eq], by first | (simp [hl, s5, s6, s9, s10, s46, o_b16, ofBytes_length, bytesOf_ofBytes, stripL_bytes, cleanL_bytes, headOk_bytes, strs, minsA, minA, sliceA, buildSliceA, buildA, structPlaces, fillA, splice, bytesOf, TView_asked.av, TView_Page.av, aR_eq, aR_eq]; done) | ((try simp only [← hw20]); (first | done | simp [hl, s5, s6, s9, s10, s46, o_b16, ofBytes_length, bytesOf_ofBytes, stripL_bytes, cleanL_bytes, headOk_bytes, strs, minsA, minA, sliceA, buildSliceA, buildA, structPlaces, fillA, splice, bytesOf, TView_asked.av, TView_Page.av, aR_eq, aR_eq]))⟩
              | false =>
                apply EvOps.run
                · intro call; simp [hl, s5, s6, s9, s10, s46, o_b16, ofBytes_length, bytesOf_ofBytes, stripL_bytes, cleanL_bytes, headOk_bytes, strs, minsA, minA, sliceA, buildSliceA, buildA, structPlaces, fillA, splice, bytesOf, TView_asked.av, TView_Page.av, aR_eq, aR_eq]; exact rfl
                exact ⟨_, rfl, by simp [hl], by simp [hl, s5, s6, s9, s10, s46, o_b16, ofBytes_length, bytesOf_ofBytes, stripL_bytes, cleanL_bytes, headOk_bytes, strs, minsA, minA, sliceA, buildSliceA, buildA, structPlaces, fillA, splice, bytesOf, TView_asked.av, TView_Page.av, aR_eq, aR_eq], by simp [hl, s5, s6, s9, s10, s46, o_b16, ofBytes_length, bytesOf_ofBytes, stripL_bytes, cleanL_bytes, headOk_bytes, strs, minsA, minA, sliceA, buildSliceA, buildA, structPlaces, fillA, splice, bytesOf, TView_asked.av, TView_Page.av, aR_eq, aR_eq], by simp [hl, s5, s6, s9, s10, s46, o_b16, ofBytes_length, bytesOf_ofBytes, stripL_bytes, cleanL_bytes, headOk_bytes, strs, minsA, minA, sliceA, buildSliceA, buildA, structPlaces, fillA, splice, bytesOf, TView_asked.av, TView_Page.av, aR_eq, aR_eq], by simp [hl, s5, s6, s9, s10, s46, o_b16, ofBytes_length, bytesOf_ofBytes, stripL_bytes, cleanL_bytes, headOk_bytes, strs, minsA, minA, sliceA, buildSliceA, buildA, structPlaces, fillA, splice, bytesOf, TView_asked.av, TView_Page.av, aR_eq, aR_eq], by first | (simp [hl, s5, s6, s9, s10, s46, o_b16, ofBytes_length, bytesOf_ofBytes, stripL_bytes, cleanL_bytes, headOk_bytes, strs, minsA, minA, sliceA, buildSliceA, buildA, structPlaces, fillA, splice, bytesOf, TView_asked.av, TView_Page.av, aR_eq, aR_eq]; done) | ((try simp only [← hw20]); (first | done | simp [hl, s5, s6, s9, s10, s46, o_b16, ofBytes_length, bytesOf_ofBytes, stripL_bytes, cleanL_bytes, headOk_bytes, strs, minsA, minA, sliceA, buildSliceA, buildA, structPlaces, fillA, splice, bytesOf, TView_asked.av, TView_Page.av, aR_eq, aR_eq]))⟩
            · clear hl s5 s6 s9 s10 s45 fr
              rintro st ⟨fr, rfl, hl, s5, s6, s9, s10, s52⟩
              refine EvOps.mid 6 (fun st => ∃ fr, st = ⟨fr, h18, d4⟩ ∧ fr.length = 83 ∧ slotAt fr 5 = some (AV.int .i64 (Int.tmod (IntKind.wrap .i64 ((Int.tmod a0 (200 : Int)) + (200 : Int))) (200 : Int))) ∧ slotAt fr 6 = some (AV.str [UInt8.ofNat (Int.toNat (IntKind.wrap .u8 (IntKind.wrap .i64 ((49 : Int) + (Int.tmod (IntKind.wrap .i64 ((Int.tmod a1 (9 : Int)) + (9 : Int))) (9 : Int))))))]) ∧ slotAt fr 9 = some (AV.int .i64 v7) ∧ slotAt fr 10 = some (AV.ptr b16 0) ∧ slotAt fr 58 = some (AV.bool ((((((r15.2 : Int) != 0) || ((r15.1.f_From : Int) != v6)) || decide ((r15.1.f_To : Int) < r15.1.f_From)) || decide ((r15.1.f_To : Int) > Int.tmod (IntKind.wrap .i64 ((Int.tmod a0 (200 : Int)) + (200 : Int))) (200 : Int)))))) ?_ ?_
              · refine EvOps.take 1 ?_
                apply EvOps.run
                · intro call; simp [hl, s5, s6, s9, s10, s52, o_b16, ofBytes_length, bytesOf_ofBytes, stripL_bytes, cleanL_bytes, headOk_bytes, strs, minsA, minA, sliceA, buildSliceA, buildA, structPlaces, fillA, splice, bytesOf, TView_asked.av, TView_Page.av, aR_eq, aR_eq]; exact rfl
                refine EvOps.gen (fun fr => fr.length = 83 ∧ slotAt fr 5 = some (AV.int .i64 (Int.tmod (IntKind.wrap .i64 ((Int.tmod a0 (200 : Int)) + (200 : Int))) (200 : Int))) ∧ slotAt fr 6 = some (AV.str [UInt8.ofNat (Int.toNat (IntKind.wrap .u8 (IntKind.wrap .i64 ((49 : Int) + (Int.tmod (IntKind.wrap .i64 ((Int.tmod a1 (9 : Int)) + (9 : Int))) (9 : Int))))))]) ∧ slotAt fr 9 = some (AV.int .i64 v7) ∧ slotAt fr 10 = some (AV.ptr b16 0) ∧ slotAt fr 53 = some (AV.bool (((((r15.2 : Int) != 0) || ((r15.1.f_From : Int) != v6)) || decide ((r15.1.f_To : Int) < r15.1.f_From))))) ⟨by simp [hl], by simp [hl, s5, s6, s9, s10, s52, o_b16, ofBytes_length, bytesOf_ofBytes, stripL_bytes, cleanL_bytes, headOk_bytes, strs, minsA, minA, sliceA, buildSliceA, buildA, structPlaces, fillA, splice, bytesOf, TView_asked.av, TView_Page.av, aR_eq, aR_eq], by simp [hl, s5, s6, s9, s10, s52, o_b16, ofBytes_length, bytesOf_ofBytes, stripL_bytes, cleanL_bytes, headOk_bytes, strs, minsA, minA, sliceA, buildSliceA, buildA, structPlaces, fillA, splice, bytesOf, TView_asked.av, TView_Page.av, aR_eq, aR_eq], by simp [hl, s5, s6, s9, s10, s52, o_b16, ofBytes_length, bytesOf_ofBytes, stripL_bytes, cleanL_bytes, headOk_bytes, strs, minsA, minA, sliceA, buildSliceA, buildA, structPlaces, fillA, splice, bytesOf, TView_asked.av, TView_Page.av, aR_eq, aR_eq], by simp [hl, s5, s6, s9, s10, s52, o_b16, ofBytes_length, bytesOf_ofBytes, stripL_bytes, cleanL_bytes, headOk_bytes, strs, minsA, minA, sliceA, buildSliceA, buildA, structPlaces, fillA, splice, bytesOf, TView_asked.av, TView_Page.av, aR_eq, aR_eq], by simp [hl, s5, s6, s9, s10, s52, o_b16, ofBytes_length, bytesOf_ofBytes, stripL_bytes, cleanL_bytes, headOk_bytes, strs, minsA, minA, sliceA, buildSliceA, buildA, structPlaces, fillA, splice, bytesOf, TView_asked.av, TView_Page.av, aR_eq, aR_eq]⟩ ?_
                clear hl s5 s6 s9 s10 s52 fr
                rintro fr ⟨hl, s5, s6, s9, s10, s53⟩
                obtain ⟨w21, hw21⟩ : ∃ b : Bool, b = (((((r15.2 : Int) != 0) || ((r15.1.f_From : Int) != v6)) || decide ((r15.1.f_To : Int) < r15.1.f_From))) := ⟨_, rfl⟩
                rw [← hw21] at s53
                cases w21 with
                | true =>
                  apply EvOps.run
                  · intro call; simp [hl, s5, s6, s9, s10, s53, o_b16, ofBytes_length, bytesOf_ofBytes, stripL_bytes, cleanL_bytes, headOk_bytes, strs, minsA, minA, sliceA, buildSliceA, buildA, structPlaces, fillA, splice, bytesOf, TView_asked.av, TView_Page.av, aR_eq, aR_eq]; exact rfl
                  exact ⟨_, rfl, by simp [hl], by simp [hl, s5, s6, s9, s10, s53, o_b16, ofBytes_length, bytesOf_ofBytes, stripL_bytes, cleanL_bytes, headOk_bytes, strs, minsA, minA, sliceA, buildSliceA, buildA, structPlaces, fillA, splice, bytesOf, TView_asked.av, TView_Page.av, aR_eq, aR_eq], by simp [hl, s5, s6, s9, s10, s53, o_b16, ofBytes_length, bytesOf_ofBytes, stripL_bytes, cleanL_bytes, headOk_bytes, strs, minsA, minA, sliceA, buildSliceA, buildA, structPlaces, fillA, splice, bytesOf, TView_asked.av, TView_Page.av, aR_eq, aR_eq], by simp [hl, s5, s6, s9, s10, s53, o_b16, ofBytes_length, bytesOf_ofBytes, stripL_bytes, cleanL_bytes, headOk_bytes, strs, minsA, minA, sliceA, buildSliceA, buildA, structPlaces, fillA, splice, bytesOf, TView_asked.av, TView_Page.av, aR_eq, aR_eq], by simp [hl, s5, s6, s9, s10, s53, o_b16, ofBytes_length, bytesOf_ofBytes, stripL_bytes, cleanL_bytes, headOk_bytes, strs, minsA, minA, sliceA, buildSliceA, buildA, structPlaces, fillA, splice, bytesOf, TView_asked.av, TView_Page.av, aR_eq, aR_eq], by first | (simp [hl, s5, s6, s9, s10, s53, o_b16, ofBytes_length, bytesOf_ofBytes, stripL_bytes, cleanL_bytes, headOk_bytes, strs, minsA, minA, sliceA, buildSliceA, buildA, structPlaces, fillA, splice, bytesOf, TView_asked.av, TView_Page.av, aR_eq, aR_eq]; done) | ((try simp only [← hw21]); (first | done | simp [hl, s5, s6, s9, s10, s53, o_b16, ofBytes_length, bytesOf_ofBytes, stripL_bytes, cleanL_bytes, headOk_bytes, strs, minsA, minA, sliceA, buildSliceA, buildA, structPlaces, fillA, splice, bytesOf, TView_asked.av, TView_Page.av, aR_eq, aR_eq]))⟩
                | false =>
                  apply EvOps.run
                  · intro call; simp [hl, s5, s6, s9, s10, s53, o_b16, ofBytes_length, bytesOf_ofBytes, stripL_bytes, cleanL_bytes, headOk_bytes, strs, minsA, minA, sliceA, buildSliceA, buildA, structPlaces, fillA, splice, bytesOf, TView_asked.av, TView_Page.av, aR_eq, aR_eq]; exact rfl
                  exact ⟨_, rfl, by simp [hl], by simp [hl, s5, s6, s9, s10, s53, o_b16, ofBytes_length, bytesOf_ofBytes, stripL_bytes, cleanL_bytes, headOk_bytes, strs, minsA, minA, sliceA, buildSliceA, buildA, structPlaces, fillA, splice, bytesOf, TView_asked.av, TView_Page.av, aR_eq, aR_eq], by simp [hl, s5, s6, s9, s10, s53, o_b16, ofBytes_length, bytesOf_ofBytes, stripL_bytes, cleanL_bytes, headOk_bytes, strs, minsA, minA, sliceA, buildSliceA, buildA, structPlaces, fillA, splice, bytesOf, TView_asked.av, TView_Page.av, aR_eq, aR_eq], by simp [hl, s5, s6, s9, s10, s53, o_b16, ofBytes_length, bytesOf_ofBytes, stripL_bytes, cleanL_bytes, headOk_bytes, strs, minsA, minA, sliceA, buildSliceA, buildA, structPlaces, fillA, splice, bytesOf, TView_asked.av, TView_Page.av, aR_eq, aR_eq], by simp [hl, s5, s6, s9, s10, s53, o_b16, ofBytes_length, bytesOf_ofBytes, stripL_bytes, cleanL_bytes, headOk_bytes, strs, minsA, minA, sliceA, buildSliceA, buildA, structPlaces, fillA, splice, bytesOf, TView_asked.av, TView_Page.av, aR_eq, aR_eq], by first | (simp [hl, s5, s6, s9, s10, s53, o_b16, ofBytes_length, bytesOf_ofBytes, stripL_bytes, cleanL_bytes, headOk_bytes, strs, minsA, minA, sliceA, buildSliceA, buildA, structPlaces, fillA, splice, bytesOf, TView_asked.av, TView_Page.av, aR_eq, aR_eq]; done) | ((try simp only [← hw21]); (first | done | simp [hl, s5, s6, s9, s10, s53, o_b16, ofBytes_length, bytesOf_ofBytes, stripL_bytes, cleanL_bytes, headOk_bytes, strs, minsA, minA, sliceA, buildSliceA, buildA, structPlaces, fillA, splice, bytesOf, TView_asked.av, TView_Page.av, aR_eq, aR_eq]))⟩
              · clear hl s5 s6 s9 s10 s52 fr
                rintro st ⟨fr, rfl, hl, s5, s6, s9, s10, s58⟩
                exact EvOps.done ⟨_, rfl, by simp [hl], by simp [hl, s5, s6, s9, s10, s58, o_b16, ofBytes_length, bytesOf_ofBytes, stripL_bytes, cleanL_bytes, headOk_bytes, strs, minsA, minA, sliceA, buildSliceA, buildA, structPlaces, fillA, splice, bytesOf, TView_asked.av, TView_Page.av, aR_eq, aR_eq], by simp [hl, s5, s6, s9, s10, s58, o_b16, ofBytes_length, bytesOf_ofBytes, stripL_bytes, cleanL_bytes, headOk_bytes, strs, minsA, minA, sliceA, buildSliceA, buildA, structPlaces, fillA, splice, bytesOf, TView_asked.av, TView_Page.av, aR_eq, aR_eq], by simp [hl, s5, s6, s9, s10, s58, o_b16, ofBytes_length, bytesOf_ofBytes, stripL_bytes, cleanL_bytes, headOk_bytes, strs, minsA, minA, sliceA, buildSliceA, buildA, structPlaces, fillA, splice, bytesOf, TView_asked.av, TView_Page.av, aR_eq, aR_eq], by simp [hl, s5, s6, s9, s10, s58, o_b16, ofBytes_length, bytesOf_ofBytes, stripL_bytes, cleanL_bytes, headOk_bytes, strs, minsA, minA, sliceA, buildSliceA, buildA, structPlaces, fillA, splice, bytesOf, TView_asked.av, TView_Page.av, aR_eq, aR_eq], by simp [hl, s5, s6, s9, s10, s58, o_b16, ofBytes_length, bytesOf_ofBytes, stripL_bytes, cleanL_bytes, headOk_bytes, strs, minsA, minA, sliceA, buildSliceA, buildA, structPlaces, fillA, splice, bytesOf, TView_asked.av, TView_Page.av, aR_eq, aR_eq]⟩
        clear hl s5 s6 s8 s9 s10 s11 fr
        rintro st ⟨fr, rfl, hl, s5, s6, s9, s10, s58⟩
        refine Ev.cond ((((((r15.2 : Int) != 0) || ((r15.1.f_From : Int) != v6)) || decide ((r15.1.f_To : Int) < r15.1.f_From)) || decide ((r15.1.f_To : Int) > Int.tmod (IntKind.wrap .i64 ((Int.tmod a0 (200 : Int)) + (200 : Int))) (200 : Int)))) (by simp [hl, s5, s6, s9, s10, s58, o_b16, ofBytes_length, bytesOf_ofBytes, stripL_bytes, cleanL_bytes, headOk_bytes, strs, minsA, minA, sliceA, buildSliceA, buildA, structPlaces, fillA, splice, bytesOf, TView_asked.av, TView_Page.av, aR_eq, aR_eq]) (fun h_22 => ?_) (fun h_22 => ?_)
        · rw [if_pos h_22] at hg
          refine Ev.seq ?_
          refine Ev.region ?_
          apply EvOps.keep (h' := h18) (d' := d4) (fun fr => fr.length = 83 ∧ slotAt fr 4 = some (AV.bool false))
          · intro call; simp [hl, s5, s6, s9, s10, s58, o_b16, ofBytes_length, bytesOf_ofBytes, stripL_bytes, cleanL_bytes, headOk_bytes, strs, minsA, minA, sliceA, buildSliceA, buildA, structPlaces, fillA, splice, bytesOf, TView_asked.av, TView_Page.av, aR_eq, aR_eq]; exact rfl
          · exact ⟨by simp [hl], by simp [hl, s5, s6, s9, s10, s58, o_b16, ofBytes_length, bytesOf_ofBytes, stripL_bytes, cleanL_bytes, headOk_bytes, strs, minsA, minA, sliceA, buildSliceA, buildA, structPlaces, fillA, splice, bytesOf, TView_asked.av, TView_Page.av, aR_eq, aR_eq]⟩
          clear hl s5 s6 s9 s10 s58 fr
          rintro fr ⟨hl, s4⟩
          refine Ev.ret ?_
          have hs := Option.some.inj hg; subst hs; clear hg; have ho := Option.some.inj hstep; subst ho
          exact .inr (⟨rfl, _, h18, d4, false, rfl, hl, by simp [hl, s4, o_b16, ofBytes_length, bytesOf_ofBytes, stripL_bytes, cleanL_bytes, headOk_bytes, strs, minsA, minA, sliceA, buildSliceA, buildA, structPlaces, fillA, splice, bytesOf, TView_asked.av, TView_Page.av, aR_eq, aR_eq], rfl⟩)
        · rw [if_neg (by rw [h_22]; simp)] at hg
          refine Ev.skip ?_
          refine Ev.seq ?_
          refine Ev.seq ?_
          refine Ev.region ?_
          apply EvOps.keep (h' := h18) (d' := d4) (fun fr => fr.length = 83 ∧ slotAt fr 5 = some (AV.int .i64 (Int.tmod (IntKind.wrap .i64 ((Int.tmod a0 (200 : Int)) + (200 : Int))) (200 : Int))) ∧ slotAt fr 6 = some (AV.str [UInt8.ofNat (Int.toNat (IntKind.wrap .u8 (IntKind.wrap .i64 ((49 : Int) + (Int.tmod (IntKind.wrap .i64 ((Int.tmod a1 (9 : Int)) + (9 : Int))) (9 : Int))))))]) ∧ slotAt fr 9 = some (AV.int .i64 v7) ∧ slotAt fr 10 = some (AV.ptr b16 0) ∧ slotAt fr 61 = some (AV.bool (((r15.1.f_Next : Int) == 0))))
          · intro call; simp [hl, s5, s6, s9, s10, s58, o_b16, ofBytes_length, bytesOf_ofBytes, stripL_bytes, cleanL_bytes, headOk_bytes, strs, minsA, minA, sliceA, buildSliceA, buildA, structPlaces, fillA, splice, bytesOf, TView_asked.av, TView_Page.av, aR_eq, aR_eq]; exact rfl
          · exact ⟨by simp [hl], by simp [hl, s5, s6, s9, s10, s58, o_b16, ofBytes_length, bytesOf_ofBytes, stripL_bytes, cleanL_bytes, headOk_bytes, strs, minsA, minA, sliceA, buildSliceA, buildA, structPlaces, fillA, splice, bytesOf, TView_asked.av, TView_Page.av, aR_eq, aR_eq], by simp [hl, s5, s6, s9, s10, s58, o_b16, ofBytes_length, bytesOf_ofBytes, stripL_bytes, cleanL_bytes, headOk_bytes, strs, minsA, minA, sliceA, buildSliceA, buildA, structPlaces, fillA, splice, bytesOf, TView_asked.av, TView_Page.av, aR_eq, aR_eq], by simp [hl, s5, s6, s9, s10, s58, o_b16, ofBytes_length, bytesOf_ofBytes, stripL_bytes, cleanL_bytes, headOk_bytes, strs, minsA, minA, sliceA, buildSliceA, buildA, structPlaces, fillA, splice, bytesOf, TView_asked.av, TView_Page.av, aR_eq, aR_eq], by simp [hl, s5, s6, s9, s10, s58, o_b16, ofBytes_length, bytesOf_ofBytes, stripL_bytes, cleanL_bytes, headOk_bytes, strs, minsA, minA, sliceA, buildSliceA, buildA, structPlaces, fillA, splice, bytesOf, TView_asked.av, TView_Page.av, aR_eq, aR_eq], by simp [hl, s5, s6, s9, s10, s58, o_b16, ofBytes_length, bytesOf_ofBytes, stripL_bytes, cleanL_bytes, headOk_bytes, strs, minsA, minA, sliceA, buildSliceA, buildA, structPlaces, fillA, splice, bytesOf, TView_asked.av, TView_Page.av, aR_eq, aR_eq]⟩
          clear hl s5 s6 s9 s10 s58 fr
          rintro fr ⟨hl, s5, s6, s9, s10, s61⟩
          refine Ev.cond (((r15.1.f_Next : Int) == 0)) (by simp [hl, s5, s6, s9, s10, s61, o_b16, ofBytes_length, bytesOf_ofBytes, stripL_bytes, cleanL_bytes, headOk_bytes, strs, minsA, minA, sliceA, buildSliceA, buildA, structPlaces, fillA, splice, bytesOf, TView_asked.av, TView_Page.av, aR_eq, aR_eq]) (fun h_23 => ?_) (fun h_23 => ?_)
          · rw [if_pos h_23] at hg
            refine Ev.seq ?_
            refine Ev.region ?_
            apply EvOps.keep (h' := h18) (d' := d4) (fun fr => fr.length = 83 ∧ slotAt fr 4 = some (AV.bool (((r15.1.f_To : Int) == Int.tmod (IntKind.wrap .i64 ((Int.tmod a0 (200 : Int)) + (200 : Int))) (200 : Int)))))
            · intro call; simp [hl, s5, s6, s9, s10, s61, o_b16, ofBytes_length, bytesOf_ofBytes, stripL_bytes, cleanL_bytes, headOk_bytes, strs, minsA, minA, sliceA, buildSliceA, buildA, structPlaces, fillA, splice, bytesOf, TView_asked.av, TView_Page.av, aR_eq, aR_eq]; exact rfl
            · exact ⟨by simp [hl], by simp [hl, s5, s6, s9, s10, s61, o_b16, ofBytes_length, bytesOf_ofBytes, stripL_bytes, cleanL_bytes, headOk_bytes, strs, minsA, minA, sliceA, buildSliceA, buildA, structPlaces, fillA, splice, bytesOf, TView_asked.av, TView_Page.av, aR_eq, aR_eq]⟩
            clear hl s5 s6 s9 s10 s61 fr
            rintro fr ⟨hl, s4⟩
            refine Ev.ret ?_
            have hs := Option.some.inj hg; subst hs; clear hg; have ho := Option.some.inj hstep; subst ho
            exact .inr (⟨rfl, _, h18, d4, ((r15.1.f_To : Int) == Int.tmod (IntKind.wrap .i64 ((Int.tmod a0 (200 : Int)) + (200 : Int))) (200 : Int)), rfl, hl, by simp [hl, s4, o_b16, ofBytes_length, bytesOf_ofBytes, stripL_bytes, cleanL_bytes, headOk_bytes, strs, minsA, minA, sliceA, buildSliceA, buildA, structPlaces, fillA, splice, bytesOf, TView_asked.av, TView_Page.av, aR_eq, aR_eq], rfl⟩)
          · rw [if_neg (by rw [h_23]; simp)] at hg
            refine Ev.skip ?_
            refine Ev.seq ?_
            refine Ev.seq ?_
            refine Ev.region ?_
            refine EvOps.mono (Q := fun st => ∃ fr, st = ⟨fr, h18, d4⟩ ∧ fr.length = 83 ∧ slotAt fr 5 = some (AV.int .i64 (Int.tmod (IntKind.wrap .i64 ((Int.tmod a0 (200 : Int)) + (200 : Int))) (200 : Int))) ∧ slotAt fr 6 = some (AV.str [UInt8.ofNat (Int.toNat (IntKind.wrap .u8 (IntKind.wrap .i64 ((49 : Int) + (Int.tmod (IntKind.wrap .i64 ((Int.tmod a1 (9 : Int)) + (9 : Int))) (9 : Int))))))]) ∧ slotAt fr 9 = some (AV.int .i64 v7) ∧ slotAt fr 10 = some (AV.ptr b16 0) ∧ slotAt fr 77 = some (AV.bool ((((r15.1.f_Next : Int) != r15.1.f_To) || ((r15.1.f_To : Int) == r15.1.f_From))))) ?_ ?_
            · refine EvOps.mid 12 (fun st => ∃ fr, st = ⟨fr, h18, d4⟩ ∧ fr.length = 83 ∧ slotAt fr 5 = some (AV.int .i64 (Int.tmod (IntKind.wrap .i64 ((Int.tmod a0 (200 : Int)) + (200 : Int))) (200 : Int))) ∧ slotAt fr 6 = some (AV.str [UInt8.ofNat (Int.toNat (IntKind.wrap .u8 (IntKind.wrap .i64 ((49 : Int) + (Int.tmod (IntKind.wrap .i64 ((Int.tmod a1 (9 : Int)) + (9 : Int))) (9 : Int))))))]) ∧ slotAt fr 9 = some (AV.int .i64 v7) ∧ slotAt fr 10 = some (AV.ptr b16 0) ∧ slotAt fr 77 = some (AV.bool ((((r15.1.f_Next : Int) != r15.1.f_To) || ((r15.1.f_To : Int) == r15.1.f_From))))) ?_ ?_
              · refine EvOps.take 6 ?_
                apply EvOps.run
                · intro call; simp [hl, s5, s6, s9, s10, s61, o_b16, ofBytes_length, bytesOf_ofBytes, stripL_bytes, cleanL_bytes, headOk_bytes, strs, minsA, minA, sliceA, buildSliceA, buildA, structPlaces, fillA, splice, bytesOf, TView_asked.av, TView_Page.av, aR_eq, aR_eq]; exact rfl
                refine EvOps.gen (fun fr => fr.length = 83 ∧ slotAt fr 5 = some (AV.int .i64 (Int.tmod (IntKind.wrap .i64 ((Int.tmod a0 (200 : Int)) + (200 : Int))) (200 : Int))) ∧ slotAt fr 6 = some (AV.str [UInt8.ofNat (Int.toNat (IntKind.wrap .u8 (IntKind.wrap .i64 ((49 : Int) + (Int.tmod (IntKind.wrap .i64 ((Int.tmod a1 (9 : Int)) + (9 : Int))) (9 : Int))))))]) ∧ slotAt fr 9 = some (AV.int .i64 v7) ∧ slotAt fr 10 = some (AV.ptr b16 0) ∧ slotAt fr 71 = some (AV.bool (((r15.1.f_Next : Int) != r15.1.f_To)))) ⟨by simp [hl], by simp [hl, s5, s6, s9, s10, s61, o_b16, ofBytes_length, bytesOf_ofBytes, stripL_bytes, cleanL_bytes, headOk_bytes, strs, minsA, minA, sliceA, buildSliceA, buildA, structPlaces, fillA, splice, bytesOf, TView_asked.av, TView_Page.av, aR_eq, aR_eq], by simp [hl, s5, s6, s9, s10, s61, o_b16, ofBytes_length, bytesOf_ofBytes, stripL_bytes, cleanL_bytes, headOk_bytes, strs, minsA, minA, sliceA, buildSliceA, buildA, structPlaces, fillA, splice, bytesOf, TView_asked.av, TView_Page.av, aR_eq, aR_eq], by simp [hl, s5, s6, s9, s10, s61, o_b16, ofBytes_length, bytesOf_ofBytes, stripL_bytes, cleanL_bytes, headOk_bytes, strs, minsA, minA, sliceA, buildSliceA, buildA, structPlaces, fillA, splice, bytesOf, TView_asked.av, TView_Page.av, aR_eq, aR_eq], by simp [hl, s5, s6, s9, s10, s61, o_b16, ofBytes_length, bytesOf_ofBytes, stripL_bytes, cleanL_bytes, headOk_bytes, strs, minsA, minA, sliceA, buildSliceA, buildA, structPlaces, fillA, splice, bytesOf, TView_asked.av, TView_Page.av, aR_eq, aR_eq], by simp [hl, s5, s6, s9, s10, s61, o_b16, ofBytes_length, bytesOf_ofBytes, stripL_bytes, cleanL_bytes, headOk_bytes, strs, minsA, minA, sliceA, buildSliceA, buildA, structPlaces, fillA, splice, bytesOf, TView_asked.av, TView_Page.av, aR_eq, aR_eq]⟩ ?_
                clear hl s5 s6 s9 s10 s61 fr
                rintro fr ⟨hl, s5, s6, s9, s10, s71⟩
                obtain ⟨w24, hw24⟩ : ∃ b : Bool, b = (((r15.1.f_Next : Int) != r15.1.f_To)) := ⟨_, rfl⟩
                rw [← hw24] at s71
                cases w24 with
                | true =>
                  apply EvOps.run
                  · intro call; simp [hl, s5, s6, s9, s10, s71, o_b16, ofBytes_length, bytesOf_ofBytes, stripL_bytes, cleanL_bytes, headOk_bytes, strs, minsA, minA, sliceA, buildSliceA, buildA, structPlaces, fillA, splice, bytesOf, TView_asked.av, TView_Page.av, aR_eq, aR_eq]; exact rfl
                  exact ⟨_, rfl, by simp [hl], by simp [hl, s5, s6, s9, s10, s71, o_b16, ofBytes_length, bytesOf_ofBytes, stripL_bytes, cleanL_bytes, headOk_bytes, strs, minsA, minA, sliceA, buildSliceA, buildA, structPlaces, fillA, splice, bytesOf, TView_asked.av, TView_Page.av, aR_eq, aR_eq], by simp [hl, s5, s6, s9, s10, s71, o_b16, ofBytes_length, bytesOf_ofBytes, stripL_bytes, cleanL_bytes, headOk_bytes, strs, minsA, minA, sliceA, buildSliceA, buildA, structPlaces, fillA, splice, bytesOf, TView_asked.av, TView_Page.av, aR_eq, aR_eq], by simp [hl, s5, s6, s9, s10, s71, o_b16, ofBytes_length, bytesOf_ofBytes, stripL_bytes, cleanL_bytes, headOk_bytes, strs, minsA, minA, sliceA, buildSliceA, buildA, structPlaces, fillA, splice, bytesOf, TView_asked.av, TView_Page.av, aR_eq, aR_eq], by simp [hl, s5, s6, s9, s10, s71, o_b16, ofBytes_length, bytesOf_ofBytes, stripL_bytes, cleanL_bytes, headOk_bytes, strs, minsA, minA, sliceA, buildSliceA, buildA, structPlaces, fillA, splice, bytesOf, TView_asked.av, TView_Page.av, aR_eq, aR_eq], by first | (simp [hl, s5, s6, s9, s10, s71, o_b16, ofBytes_length, bytesOf_ofBytes, stripL_bytes, cleanL_bytes, headOk_bytes, strs, minsA, minA, sliceA, buildSliceA, buildA, structPlaces, fillA, splice, bytesOf, TView_asked.av, TView_Page.av, aR_eq, aR_eq]; done) | ((try simp only [← hw24]); (first | done | simp [hl, s5, s6, s9, s10, s71, o_b16, ofBytes_length, bytesOf_ofBytes, stripL_bytes, cleanL_bytes, headOk_bytes, strs, minsA, minA, sliceA, buildSliceA, buildA, structPlaces, fillA, splice, bytesOf, TView_asked.av, TView_Page.av, aR_eq, aR_eq]))⟩
                | false =>
                  apply EvOps.run
                  · intro call; simp [hl, s5, s6, s9, s10, s71, o_b16, ofBytes_length, bytesOf_ofBytes, stripL_bytes, cleanL_bytes, headOk_bytes, strs, minsA, minA, sliceA, buildSliceA, buildA, structPlaces, fillA, splice, bytesOf, TView_asked.av, TView_Page.av, aR_eq, aR_eq]; exact rfl
                  exact ⟨_, rfl, by simp [hl], by simp [hl, s5, s6, s9, s10, s71, o_b16, ofBytes_length, bytesOf_ofBytes, stripL_bytes, cleanL_bytes, headOk_bytes, strs, minsA, minA, sliceA, buildSliceA, buildA, structPlaces, fillA, splice, bytesOf, TView_asked.av, TView_Page.av, aR_eq, aR_eq], by simp [hl, s5, s6, s9, s10, s71, o_b16, ofBytes_length, bytesOf_ofBytes, stripL_bytes, cleanL_bytes, headOk_bytes, strs, minsA, minA, sliceA, buildSliceA, buildA, structPlaces, fillA, splice, bytesOf, TView_asked.av, TView_Page.av, aR_eq, aR_eq], by simp [hl, s5, s6, s9, s10, s71, o_b16, ofBytes_length, bytesOf_ofBytes, stripL_bytes, cleanL_bytes, headOk_bytes, strs, minsA, minA, sliceA, buildSliceA, buildA, structPlaces, fillA, splice, bytesOf, TView_asked.av, TView_Page.av, aR_eq, aR_eq], by simp [hl, s5, s6, s9, s10, s71, o_b16, ofBytes_length, bytesOf_ofBytes, stripL_bytes, cleanL_bytes, headOk_bytes, strs, minsA, minA, sliceA, buildSliceA, buildA, structPlaces, fillA, splice, bytesOf, TView_asked.av, TView_Page.av, aR_eq, aR_eq], by first | (simp [hl, s5, s6, s9, s10, s71, o_b16, ofBytes_length, bytesOf_ofBytes, stripL_bytes, cleanL_bytes, headOk_bytes, strs, minsA, minA, sliceA, buildSliceA, buildA, structPlaces, fillA, splice, bytesOf, TView_asked.av, TView_Page.av, aR_eq, aR_eq]; done) | ((try simp only [← hw24]); (first | done | simp [hl, s5, s6, s9, s10, s71, o_b16, ofBytes_length, bytesOf_ofBytes, stripL_bytes, cleanL_bytes, headOk_bytes, strs, minsA, minA, sliceA, buildSliceA, buildA, structPlaces, fillA, splice, bytesOf, TView_asked.av, TView_Page.av, aR_eq, aR_eq]))⟩
              · clear hl s5 s6 s9 s10 s61 fr
                rintro st ⟨fr, rfl, hl, s5, s6, s9, s10, s77⟩
                exact EvOps.done ⟨_, rfl, by simp [hl], by simp [hl, s5, s6, s9, s10, s77, o_b16, ofBytes_length, bytesOf_ofBytes, stripL_bytes, cleanL_bytes, headOk_bytes, strs, minsA, minA, sliceA, buildSliceA, buildA, structPlaces, fillA, splice, bytesOf, TView_asked.av, TView_Page.av, aR_eq, aR_eq], by simp [hl, s5, s6, s9, s10, s77, o_b16, ofBytes_length, bytesOf_ofBytes, stripL_bytes, cleanL_bytes, headOk_bytes, strs, minsA, minA, sliceA, buildSliceA, buildA, structPlaces, fillA, splice, bytesOf, TView_asked.av, TView_Page.av, aR_eq, aR_eq], by simp [hl, s5, s6, s9, s10, s77, o_b16, ofBytes_length, bytesOf_ofBytes, stripL_bytes, cleanL_bytes, headOk_bytes, strs, minsA, minA, sliceA, buildSliceA, buildA, structPlaces, fillA, splice, bytesOf, TView_asked.av, TView_Page.av, aR_eq, aR_eq], by simp [hl, s5, s6, s9, s10, s77, o_b16, ofBytes_length, bytesOf_ofBytes, stripL_bytes, cleanL_bytes, headOk_bytes, strs, minsA, minA, sliceA, buildSliceA, buildA, structPlaces, fillA, splice, bytesOf, TView_asked.av, TView_Page.av, aR_eq, aR_eq], by simp [hl, s5, s6, s9, s10, s77, o_b16, ofBytes_length, bytesOf_ofBytes, stripL_bytes, cleanL_bytes, headOk_bytes, strs, minsA, minA, sliceA, buildSliceA, buildA, structPlaces, fillA, splice, bytesOf, TView_asked.av, TView_Page.av, aR_eq, aR_eq]⟩
            clear hl s5 s6 s9 s10 s61 fr
            rintro st ⟨fr, rfl, hl, s5, s6, s9, s10, s77⟩
            refine Ev.cond ((((r15.1.f_Next : Int) != r15.1.f_To) || ((r15.1.f_To : Int) == r15.1.f_From))) (by simp [hl, s5, s6, s9, s10, s77, o_b16, ofBytes_length, bytesOf_ofBytes, stripL_bytes, cleanL_bytes, headOk_bytes, strs, minsA, minA, sliceA, buildSliceA, buildA, structPlaces, fillA, splice, bytesOf, TView_asked.av, TView_Page.av, aR_eq, aR_eq]) (fun h_25 => ?_) (fun h_25 => ?_)
            · rw [if_pos h_25] at hg
              refine Ev.seq ?_
              refine Ev.region ?_
              apply EvOps.keep (h' := h18) (d' := d4) (fun fr => fr.length = 83 ∧ slotAt fr 4 = some (AV.bool false))
              · intro call; simp [hl, s5, s6, s9, s10, s77, o_b16, ofBytes_length, bytesOf_ofBytes, stripL_bytes, cleanL_bytes, headOk_bytes, strs, minsA, minA, sliceA, buildSliceA, buildA, structPlaces, fillA, splice, bytesOf, TView_asked.av, TView_Page.av, aR_eq, aR_eq]; exact rfl
              · exact ⟨by simp [hl], by simp [hl, s5, s6, s9, s10, s77, o_b16, ofBytes_length, bytesOf_ofBytes, stripL_bytes, cleanL_bytes, headOk_bytes, strs, minsA, minA, sliceA, buildSliceA, buildA, structPlaces, fillA, splice, bytesOf, TView_asked.av, TView_Page.av, aR_eq, aR_eq]⟩
              clear hl s5 s6 s9 s10 s77 fr
              rintro fr ⟨hl, s4⟩
              refine Ev.ret ?_
              have hs := Option.some.inj hg; subst hs; clear hg; have ho := Option.some.inj hstep; subst ho
              exact .inr (⟨rfl, _, h18, d4, false, rfl, hl, by simp [hl, s4, o_b16, ofBytes_length, bytesOf_ofBytes, stripL_bytes, cleanL_bytes, headOk_bytes, strs, minsA, minA, sliceA, buildSliceA, buildA, structPlaces, fillA, splice, bytesOf, TView_asked.av, TView_Page.av, aR_eq, aR_eq], rfl⟩)
            · rw [if_neg (by rw [h_25]; simp)] at hg
              refine Ev.skip ?_
              refine Ev.seq ?_
              refine Ev.region ?_
              apply EvOps.keep (h' := h18) (d' := d4) (fun fr => fr.length = 83 ∧ slotAt fr 5 = some (AV.int .i64 (Int.tmod (IntKind.wrap .i64 ((Int.tmod a0 (200 : Int)) + (200 : Int))) (200 : Int))) ∧ slotAt fr 6 = some (AV.str [UInt8.ofNat (Int.toNat (IntKind.wrap .u8 (IntKind.wrap .i64 ((49 : Int) + (Int.tmod (IntKind.wrap .i64 ((Int.tmod a1 (9 : Int)) + (9 : Int))) (9 : Int))))))]) ∧ slotAt fr 8 = some (AV.int .i64 r15.1.f_To) ∧ slotAt fr 9 = some (AV.int .i64 v7) ∧ slotAt fr 10 = some (AV.ptr b16 0))
              · intro call; simp [hl, s5, s6, s9, s10, s77, o_b16, ofBytes_length, bytesOf_ofBytes, stripL_bytes, cleanL_bytes, headOk_bytes, strs, minsA, minA, sliceA, buildSliceA, buildA, structPlaces, fillA, splice, bytesOf, TView_asked.av, TView_Page.av, aR_eq, aR_eq]; exact rfl
              · exact ⟨by simp [hl], by simp [hl, s5, s6, s9, s10, s77, o_b16, ofBytes_length, bytesOf_ofBytes, stripL_bytes, cleanL_bytes, headOk_bytes, strs, minsA, minA, sliceA, buildSliceA, buildA, structPlaces, fillA, splice, bytesOf, TView_asked.av, TView_Page.av, aR_eq, aR_eq], by simp [hl, s5, s6, s9, s10, s77, o_b16, ofBytes_length, bytesOf_ofBytes, stripL_bytes, cleanL_bytes, headOk_bytes, strs, minsA, minA, sliceA, buildSliceA, buildA, structPlaces, fillA, splice, bytesOf, TView_asked.av, TView_Page.av, aR_eq, aR_eq], by simp [hl, s5, s6, s9, s10, s77, o_b16, ofBytes_length, bytesOf_ofBytes, stripL_bytes, cleanL_bytes, headOk_bytes, strs, minsA, minA, sliceA, buildSliceA, buildA, structPlaces, fillA, splice, bytesOf, TView_asked.av, TView_Page.av, aR_eq, aR_eq], by simp [hl, s5, s6, s9, s10, s77, o_b16, ofBytes_length, bytesOf_ofBytes, stripL_bytes, cleanL_bytes, headOk_bytes, strs, minsA, minA, sliceA, buildSliceA, buildA, structPlaces, fillA, splice, bytesOf, TView_asked.av, TView_Page.av, aR_eq, aR_eq], by simp [hl, s5, s6, s9, s10, s77, o_b16, ofBytes_length, bytesOf_ofBytes, stripL_bytes, cleanL_bytes, headOk_bytes, strs, minsA, minA, sliceA, buildSliceA, buildA, structPlaces, fillA, splice, bytesOf, TView_asked.av, TView_Page.av, aR_eq, aR_eq]⟩
              clear hl s5 s6 s9 s10 s77 fr
              rintro fr ⟨hl, s5, s6, s8, s9, s10⟩
              refine Ev.region ?_
              obtain ⟨r26, er26, hg⟩ := bind_some hg
              refine EvOps.take 2 ?_
              apply EvOps.run
              · intro call; simp [hl, s5, s6, s8, s9, s10, o_b16, ofBytes_length, bytesOf_ofBytes, stripL_bytes, cleanL_bytes, headOk_bytes, strs, minsA, minA, sliceA, buildSliceA, buildA, structPlaces, fillA, splice, bytesOf, TView_asked.av, TView_Page.av, aR_eq, aR_eq]; exact rfl
              refine EvOps.call rfl (by simp [hl, s5, s6, s8, s9, s10, o_b16, ofBytes_length, bytesOf_ofBytes, stripL_bytes, cleanL_bytes, headOk_bytes, strs, minsA, minA, sliceA, buildSliceA, buildA, structPlaces, fillA, splice, bytesOf, TView_asked.av, TView_Page.av, aR_eq, aR_eq]) (by simp [hl, s5, s6, s8, s9, s10, o_b16, ofBytes_length, bytesOf_ofBytes, stripL_bytes, cleanL_bytes, headOk_bytes, strs, minsA, minA, sliceA, buildSliceA, buildA, structPlaces, fillA, splice, bytesOf, TView_asked.av, TView_Page.av, aR_eq, aR_eq] <;> exact rfl) (by simp [hl, s5, s6, s8, s9, s10, o_b16, ofBytes_length, bytesOf_ofBytes, stripL_bytes, cleanL_bytes, headOk_bytes, strs, minsA, minA, sliceA, buildSliceA, buildA, structPlaces, fillA, splice, bytesOf, TView_asked.av, TView_Page.av, aR_eq, aR_eq] <;> exact rfl) (F10_ok er26) ?_
              apply EvOps.keep (h' := h18) (d' := d4) (fun fr => fr.length = 83 ∧ slotAt fr 5 = some (AV.int .i64 (Int.tmod (IntKind.wrap .i64 ((Int.tmod a0 (200 : Int)) + (200 : Int))) (200 : Int))) ∧ slotAt fr 6 = some (AV.str [UInt8.ofNat (Int.toNat (IntKind.wrap .u8 (IntKind.wrap .i64 ((49 : Int) + (Int.tmod (IntKind.wrap .i64 ((Int.tmod a1 (9 : Int)) + (9 : Int))) (9 : Int))))))]) ∧ slotAt fr 7 = some (AV.str r26) ∧ slotAt fr 8 = some (AV.int .i64 r15.1.f_To) ∧ slotAt fr 9 = some (AV.int .i64 v7))
              · intro call; simp [hl, s5, s6, s8, s9, s10, o_b16, ofBytes_length, bytesOf_ofBytes, stripL_bytes, cleanL_bytes, headOk_bytes, strs, minsA, minA, sliceA, buildSliceA, buildA, structPlaces, fillA, splice, bytesOf, TView_asked.av, TView_Page.av, aR_eq, aR_eq]; exact rfl
              · exact ⟨by simp [hl], by simp [hl, s5, s6, s8, s9, s10, o_b16, ofBytes_length, bytesOf_ofBytes, stripL_bytes, cleanL_bytes, headOk_bytes, strs, minsA, minA, sliceA, buildSliceA, buildA, structPlaces, fillA, splice, bytesOf, TView_asked.av, TView_Page.av, aR_eq, aR_eq], by simp [hl, s5, s6, s8, s9, s10, o_b16, ofBytes_length, bytesOf_ofBytes, stripL_bytes, cleanL_bytes, headOk_bytes, strs, minsA, minA, sliceA, buildSliceA, buildA, structPlaces, fillA, splice, bytesOf, TView_asked.av, TView_Page.av, aR_eq, aR_eq], by simp [hl, s5, s6, s8, s9, s10, o_b16, ofBytes_length, bytesOf_ofBytes, stripL_bytes, cleanL_bytes, headOk_bytes, strs, minsA, minA, sliceA, buildSliceA, buildA, structPlaces, fillA, splice, bytesOf, TView_asked.av, TView_Page.av, aR_eq, aR_eq], by simp [hl, s5, s6, s8, s9, s10, o_b16, ofBytes_length, bytesOf_ofBytes, stripL_bytes, cleanL_bytes, headOk_bytes, strs, minsA, minA, sliceA, buildSliceA, buildA, structPlaces, fillA, splice, bytesOf, TView_asked.av, TView_Page.av, aR_eq, aR_eq], by simp [hl, s5, s6, s8, s9, s10, o_b16, ofBytes_length, bytesOf_ofBytes, stripL_bytes, cleanL_bytes, headOk_bytes, strs, minsA, minA, sliceA, buildSliceA, buildA, structPlaces, fillA, splice, bytesOf, TView_asked.av, TView_Page.av, aR_eq, aR_eq]⟩
              clear hl s5 s6 s8 s9 s10 fr
              rintro fr ⟨hl, s5, s6, s7, s8, s9⟩
              refine Ev.region ?_
              apply EvOps.keep (h' := h18) (d' := d4) (fun fr => fr.length = 83 ∧ slotAt fr 5 = some (AV.int .i64 (Int.tmod (IntKind.wrap .i64 ((Int.tmod a0 (200 : Int)) + (200 : Int))) (200 : Int))) ∧ slotAt fr 6 = some (AV.str [UInt8.ofNat (Int.toNat (IntKind.wrap .u8 (IntKind.wrap .i64 ((49 : Int) + (Int.tmod (IntKind.wrap .i64 ((Int.tmod a1 (9 : Int)) + (9 : Int))) (9 : Int))))))]) ∧ slotAt fr 7 = some (AV.str r26) ∧ slotAt fr 8 = some (AV.int .i64 r15.1.f_To) ∧ slotAt fr 9 = some (AV.int .i64 (IntKind.wrap .i64 (v7 + (1 : Int)))))
              · intro call; simp [hl, s5, s6, s7, s8, s9, o_b16, ofBytes_length, bytesOf_ofBytes, stripL_bytes, cleanL_bytes, headOk_bytes, strs, minsA, minA, sliceA, buildSliceA, buildA, structPlaces, fillA, splice, bytesOf, TView_asked.av, TView_Page.av, aR_eq, aR_eq]; exact rfl
              · exact ⟨by simp [hl], by simp [hl, s5, s6, s7, s8, s9, o_b16, ofBytes_length, bytesOf_ofBytes, stripL_bytes, cleanL_bytes, headOk_bytes, strs, minsA, minA, sliceA, buildSliceA, buildA, structPlaces, fillA, splice, bytesOf, TView_asked.av, TView_Page.av, aR_eq, aR_eq], by simp [hl, s5, s6, s7, s8, s9, o_b16, ofBytes_length, bytesOf_ofBytes, stripL_bytes, cleanL_bytes, headOk_bytes, strs, minsA, minA, sliceA, buildSliceA, buildA, structPlaces, fillA, splice, bytesOf, TView_asked.av, TView_Page.av, aR_eq, aR_eq], by simp [hl, s5, s6, s7, s8, s9, o_b16, ofBytes_length, bytesOf_ofBytes, stripL_bytes, cleanL_bytes, headOk_bytes, strs, minsA, minA, sliceA, buildSliceA, buildA, structPlaces, fillA, splice, bytesOf, TView_asked.av, TView_Page.av, aR_eq, aR_eq], by simp [hl, s5, s6, s7, s8, s9, o_b16, ofBytes_length, bytesOf_ofBytes, stripL_bytes, cleanL_bytes, headOk_bytes, strs, minsA, minA, sliceA, buildSliceA, buildA, structPlaces, fillA, splice, bytesOf, TView_asked.av, TView_Page.av, aR_eq, aR_eq], by simp [hl, s5, s6, s7, s8, s9, o_b16, ofBytes_length, bytesOf_ofBytes, stripL_bytes, cleanL_bytes, headOk_bytes, strs, minsA, minA, sliceA, buildSliceA, buildA, structPlaces, fillA, splice, bytesOf, TView_asked.av, TView_Page.av, aR_eq, aR_eq]⟩
              clear hl s5 s6 s7 s8 s9 fr
              rintro fr ⟨hl, s5, s6, s7, s8, s9⟩
              have hs := Option.some.inj hg; subst hs; clear hg
              exact ⟨m, Nat.lt_succ_self m, _, h18, d4, r26, r15.1.f_To, IntKind.wrap .i64 (v7 + (1 : Int)), rfl, hl, by simp [hl, s5, s6, s7, s8, s9, o_b16, ofBytes_length, bytesOf_ofBytes, stripL_bytes, cleanL_bytes, headOk_bytes, strs, minsA, minA, sliceA, buildSliceA, buildA, structPlaces, fillA, splice, bytesOf, TView_asked.av, TView_Page.av, aR_eq, aR_eq], by simp [hl, s5, s6, s7, s8, s9, o_b16, ofBytes_length, bytesOf_ofBytes, stripL_bytes, cleanL_bytes, headOk_bytes, strs, minsA, minA, sliceA, buildSliceA, buildA, structPlaces, fillA, splice, bytesOf, TView_asked.av, TView_Page.av, aR_eq, aR_eq], by simp [hl, s5, s6, s7, s8, s9, o_b16, ofBytes_length, bytesOf_ofBytes, stripL_bytes, cleanL_bytes, headOk_bytes, strs, minsA, minA, sliceA, buildSliceA, buildA, structPlaces, fillA, splice, bytesOf, TView_asked.av, TView_Page.av, aR_eq, aR_eq], by simp [hl, s5, s6, s7, s8, s9, o_b16, ofBytes_length, bytesOf_ofBytes, stripL_bytes, cleanL_bytes, headOk_bytes, strs, minsA, minA, sliceA, buildSliceA, buildA, structPlaces, fillA, splice, bytesOf, TView_asked.av, TView_Page.av, aR_eq, aR_eq], by simp [hl, s5, s6, s7, s8, s9, o_b16, ofBytes_length, bytesOf_ofBytes, stripL_bytes, cleanL_bytes, headOk_bytes, strs, minsA, minA, sliceA, buildSliceA, buildA, structPlaces, fillA, splice, bytesOf, TView_asked.av, TView_Page.av, aR_eq, aR_eq], hstep⟩
      · rw [if_neg (by rw [h_14]; simp)] at hg
        refine Ev.exit ?_
        have hs := Option.some.inj hg; subst hs; clear hg; have ho := Option.some.inj hstep; subst ho
        exact .inl ⟨rfl, _, h3, d4, rfl, hl, rfl⟩
    · clear eo27 hl s5 s6 s7 s8 s9 fr
      rintro x st (⟨rfl, fr, h9, d10, rfl, hl, ho⟩ | ⟨rfl, fr, h11, d12, v13, rfl, hl, s4, ho⟩)
      · rw [ho] at hg; (try dsimp only at hg); clear ho
        refine Ev.seq ?_
        refine Ev.region ?_
        apply EvOps.keep (h' := h9) (d' := d10) (fun fr => fr.length = 83 ∧ slotAt fr 4 = some (AV.bool false))
        · intro call; simp [hl, ofBytes_length, bytesOf_ofBytes, stripL_bytes, cleanL_bytes, headOk_bytes, strs, minsA, minA, sliceA, buildSliceA, buildA, structPlaces, fillA, splice, bytesOf, TView_asked.av, TView_Page.av, aR_eq, aR_eq]; exact rfl
        · exact ⟨by simp [hl], by simp [hl, ofBytes_length, bytesOf_ofBytes, stripL_bytes, cleanL_bytes, headOk_bytes, strs, minsA, minA, sliceA, buildSliceA, buildA, structPlaces, fillA, splice, bytesOf, TView_asked.av, TView_Page.av, aR_eq, aR_eq]⟩
        clear hl  fr
        rintro fr ⟨hl, s4⟩
        refine Ev.ret ?_
        have hs := Option.some.inj hg; subst hs
        exact ⟨AV.bool false, by simp [Try.f3, hl, s4, ofBytes_length, bytesOf_ofBytes, stripL_bytes, cleanL_bytes, headOk_bytes, strs, minsA, minA, sliceA, buildSliceA, buildA, structPlaces, fillA, splice, bytesOf, TView_asked.av, TView_Page.av, aR_eq, aR_eq] <;> exact rfl, by simp [strs, TView_asked.av, TView_Page.av, aR_eq, aR_eq]⟩
      · rw [ho] at hg; (try dsimp only at hg); clear ho
        have hs := Option.some.inj hg; subst hs
        exact ⟨AV.bool v13, by simp [Try.f3, hl, s4, ofBytes_length, bytesOf_ofBytes, stripL_bytes, cleanL_bytes, headOk_bytes, strs, minsA, minA, sliceA, buildSliceA, buildA, structPlaces, fillA, splice, bytesOf, TView_asked.av, TView_Page.av, aR_eq, aR_eq] <;> exact rfl, by simp [strs, TView_asked.av, TView_Page.av, aR_eq, aR_eq]⟩
end Go.Proofs.Ytpfdfilkhaoibaa

/-
  ViewWhole: page by page each of some things is there once, in order: the plain part.
-/
namespace Go.Proofs.Ytpfdfilkhaoibaa
open Go Ev
set_option linter.unusedVariables false
set_option linter.unusedSimpArgs false
set_option maxRecDepth 100000
/-- The text of a place, as the law makes it. -/
def dgt (n : Nat) : S := if n = 0 then [48] else (F10 1000 n).getD []
def isPar (s : S) (n : Int) : Bool := match F78 1000 s with | some (m, true) => m == n | _ => false
def isDg (n : Nat) : Bool := n == 0 || (F10 1000 n).isSome
def isOpt (j : Nat) : Bool := match F36 1000 [[67, 79, 85, 78, 84], [UInt8.ofNat (49 + j)]] with | some (a, 0) => a.f_count == [UInt8.ofNat (49 + j)] && a.f_match == [42] | _ => false
theorem par_all : ((List.range 200).all fun a => isPar (dgt a) a && isDg a) = true := by kernel_rfl
theorem cnt_all : ((List.range 9).all fun j => isPar [UInt8.ofNat (49 + j)] (j + 1) && isOpt j) = true := by kernel_rfl
theorem par {a : Nat} (h : a < 200) : F78 1000 (dgt a) = some ((a : Int), true) := by
  have := List.all_eq_true.1 par_all a (List.mem_range.2 h)
  simp only [Bool.and_eq_true] at this
  have h1 := this.1
  unfold isPar at h1
  split at h1
  · rename_i m hm; rw [hm]; simp only [beq_iff_eq] at h1; rw [h1]
  · cases h1
theorem dig {a : Nat} (h : a < 200) (h0 : 0 < a) : F10 1000 a = some (dgt a) := by
  have := List.all_eq_true.1 par_all a (List.mem_range.2 h)
  simp only [Bool.and_eq_true] at this
  have h1 := this.2
  unfold isDg at h1
  have h2 : ¬ a = 0 := by omega
  simp only [Bool.or_eq_true, beq_iff_eq, h2, false_or] at h1
  unfold dgt
  rw [if_neg h2]
  obtain ⟨s, hs⟩ := Option.isSome_iff_exists.1 h1
  rw [hs]; rfl
theorem cpar {j : Nat} (h : j < 9) : F78 1000 [UInt8.ofNat (49 + j)] = some (((j : Int) + 1), true) := by
  have := List.all_eq_true.1 cnt_all j (List.mem_range.2 h)
  simp only [Bool.and_eq_true] at this
  have h1 := this.1
  unfold isPar at h1
  split at h1
  · rename_i m hm; rw [hm]; simp only [beq_iff_eq] at h1; rw [h1]
  · cases h1
theorem copt {j : Nat} (h : j < 9) : ∃ a, F36 1000 [[67, 79, 85, 78, 84], [UInt8.ofNat (49 + j)]] = some (a, 0) ∧ a.f_count = [UInt8.ofNat (49 + j)] := by
  have := List.all_eq_true.1 cnt_all j (List.mem_range.2 h)
  simp only [Bool.and_eq_true] at this
  have h1 := this.2
  unfold isOpt at h1
  split at h1
  · rename_i a ha
    simp only [Bool.and_eq_true, beq_iff_eq] at h1
    exact ⟨a, ha, h1.1⟩
  · cases h1
theorem F37_step (k : Nat) (a0 : List S) (m : Nat) (lv) : F37_l4 k a0 (m + 1) lv = (F37_l4_b k a0 lv).bind fun s => match s with | .inl lv => F37_l4 k a0 m lv | .inr o => some o := rfl
theorem ints2 {k m : Nat} (hk : k = m + 3) {x y : S} {a b : Int} (hx : F78 k x = some (a, true)) (hy : F78 k y = some (b, true)) : F37 k [x, y] = some ([a, b], 0) := by
  have w1 : IntKind.wrap .i64 ((0 : Int) + 1) = 1 := wrap_int 1 (by omega) (by omega)
  have w2 : IntKind.wrap .i64 ((1 : Int) + 1) = 2 := wrap_int 2 (by omega) (by omega)
  have s1 : F37_l4_b k [x, y] ([], 0) = some (.inl ([a], 1)) := by simp only [F37_l4_b, w1]; simp [getAt, hx, chk]
  have s2 : F37_l4_b k [x, y] ([a], 1) = some (.inl ([a, b], 2)) := by simp only [F37_l4_b, w2]; simp [getAt, hy, chk]
  have s3 : F37_l4_b k [x, y] ([a, b], 2) = some (.inr (.inl [a, b])) := by simp [F37_l4_b]
  have e : F37_l4 k [x, y] (m + 1 + 1 + 1) ([], 0) = some (.inl [a, b]) := by
    rw [F37_step, s1]
    simp only [Option.bind_some]
    rw [F37_step, s2]
    simp only [Option.bind_some]
    rw [F37_step, s3]
    simp only [Option.bind_some]
  have e' : F37_l4 k [x, y] k ([], 0) = some (.inl [a, b]) := by
    have : k = m + 1 + 1 + 1 := by omega
    rw [← this] at e
    exact e
  unfold F37
  rw [e', Option.bind_some]
theorem page {kk a j : Nat} (hk : kk < 200) (ha : a ≤ kk) (hj : j < 9) : ∃ mt, F9 1000 kk [dgt a, [67, 79, 85, 78, 84], [UInt8.ofNat (49 + j)]] = some (⟨a, (a + min (j + 1) (kk - a) : Nat), if a + min (j + 1) (kk - a) < kk then (a + min (j + 1) (kk - a) : Nat) else 0, mt⟩, 0) := by
  obtain ⟨o, ho, hc⟩ := copt hj
  have hi := ints2 (k := 1000) (m := 997) (by omega) (par (a := a) (by omega)) (cpar hj)
  refine ⟨o.f_match, ?_⟩
  obtain ⟨q, hq⟩ : ∃ q, q = min (j + 1) (kk - a) := ⟨_, rfl⟩
  rw [← hq]
  have k0 : (if (0 : Int) > (kk : Int) then (0 : Int) else (kk : Int)) = (kk : Int) := by rw [if_neg (by omega)]
  have hmin : (if ((kk : Int)) < (a : Int) then (kk : Int) else a) = a := by rw [if_neg (by omega)]
  have w1 : IntKind.wrap .i64 ((kk : Int) - a) = ((kk - a : Nat) : Int) := by rw [wrap_int _ (by omega) (by omega)]; omega
  have hmin2 : (if ((kk - a : Nat) : Int) < (j : Int) + 1 then ((kk - a : Nat) : Int) else (j : Int) + 1) = (q : Int) := by split <;> omega
  have w2 : IntKind.wrap .i64 ((a : Int) + (q : Int)) = ((a + q : Nat) : Int) := by rw [wrap_int _ (by omega) (by omega)]; omega
  unfold F9
  rw [if_neg (by simp)]
  have c1 : chk (1 ≤ ((List.length [dgt a, [67, 79, 85, 78, 84], [UInt8.ofNat (49 + j)]] : Nat) : Int)) = some () := by simp [chk]
  rw [c1, Option.bind_some]
  simp only [List.drop_succ_cons, List.drop_zero, ho, hc, Option.bind_some]
  rw [if_neg (by simp)]
  have g0 : getAt [dgt a, [67, 79, 85, 78, 84], [UInt8.ofNat (49 + j)]] 0 = some (dgt a) := by simp [getAt]
  rw [g0, Option.bind_some, hi, Option.bind_some]
  have ga : getAt [(a : Int), (j : Int) + 1] 0 = some (a : Int) := by simp [getAt]
  have gb : getAt [(a : Int), (j : Int) + 1] 1 = some ((j : Int) + 1) := by simp [getAt]
  simp only [ga, gb, Option.bind_some]
  rw [if_neg (by simp), if_neg (by simp), Option.bind_some, if_neg (by simp)]
  simp only [k0, hmin, w1, hmin2, w2, F9_j37]
  by_cases h : a + q < kk
  · rw [if_pos (by simp; omega), if_pos h]
  · rw [if_neg (by simp; omega), if_neg h]
theorem tmodw (a : Int) (n : Nat) (hn : 0 < n) (h : n ≤ 1000) : ∃ q : Nat, q < n ∧ Int.tmod (IntKind.wrap .i64 (Int.tmod a (n : Int) + (n : Int))) (n : Int) = q := by
  have h1 : -(n : Int) < Int.tmod a n := by
    have := Int.lt_tmod_of_pos a (b := (n : Int)) (by omega); exact this
  have h2 : Int.tmod a n < n := Int.tmod_lt_of_pos a (by omega)
  rw [wrap_int _ (by omega) (by omega)]
  obtain ⟨t, ht⟩ : ∃ t : Nat, Int.tmod a n + n = t := ⟨(Int.tmod a n + n).toNat, by omega⟩
  rw [ht]
  exact ⟨t % n, Nat.mod_lt _ hn, by rw [Int.ofNat_tmod]⟩
theorem F3_step (k : Nat) (a0 a1 : Int) (m : Nat) (lv) : F3_l7 k a0 a1 (m + 1) lv = (F3_l7_b k a0 a1 lv).bind fun s => match s with | .inl lv => F3_l7 k a0 a1 m lv | .inr o => some o := rfl
theorem whole_loop {a0 a1 : Int} {kk j : Nat} (hk : kk < 200) (hj : j < 9) (e0 : Int.tmod (IntKind.wrap .i64 (Int.tmod a0 (200 : Int) + (200 : Int))) (200 : Int) = kk) (e1 : Int.tmod (IntKind.wrap .i64 (Int.tmod a1 (9 : Int) + (9 : Int))) (9 : Int) = j) :
    ∀ (d f i m : Nat), kk - f ≤ d → f ≤ kk → i ≤ f → d < m → F3_l7 1000 a0 a1 m (dgt f, f, i) = some (.inr true) := by
  have hb : UInt8.ofNat (Int.toNat (IntKind.wrap .u8 (IntKind.wrap .i64 ((49 : Int) + (j : Int))))) = UInt8.ofNat (49 + j) := by
    rw [wrap_int _ (by omega) (by omega)]
    have : IntKind.wrap .u8 ((49 : Int) + (j : Int)) = ((49 + j : Nat) : Int) := by rw [← wrap_u8 (49 + j) (by omega)]; simp
    rw [this]; rfl
  intro d
  induction d with
  | zero =>
    intro f i m hd hf hi hm
    obtain ⟨m, rfl⟩ : ∃ q, m = q + 1 := ⟨m - 1, by omega⟩
    obtain rfl : f = kk := by omega
    obtain ⟨mt, hp⟩ := page (a := f) (j := j) hk (Nat.le_refl _) hj
    have hq : min (j + 1) (f - f) = 0 := by omega
    rw [hq] at hp
    rw [F3_step]
    have : F3_l7_b 1000 a0 a1 (dgt f, (f : Int), (i : Int)) = some (.inr (.inr true)) := by
      simp only [F3_l7_b, e0, e1, hb, hp]
      have h300 : ((i : Int) < 300) := by omega
      simp [h300]
    rw [this]
    rfl
  | succ d ih =>
    intro f i m hd hf hi hm
    obtain ⟨m, rfl⟩ : ∃ q, m = q + 1 := ⟨m - 1, by omega⟩
    obtain ⟨mt, hp⟩ := page (a := f) (j := j) hk hf hj
    obtain ⟨q, hq⟩ : ∃ q, q = min (j + 1) (kk - f) := ⟨_, rfl⟩
    rw [← hq] at hp
    have h300 : ((i : Int) < 300) := by omega
    rw [F3_step]
    by_cases hlt : f + q < kk
    · rw [if_pos hlt] at hp
      have hdg := dig (a := f + q) (by omega) (by omega)
      have wi : IntKind.wrap .i64 ((i : Int) + 1) = ((i + 1 : Nat) : Int) := wrap_succ i (by omega)
      have : F3_l7_b 1000 a0 a1 (dgt f, (f : Int), (i : Int)) = some (.inl (dgt (f + q), ((f + q : Nat) : Int), ((i + 1 : Nat) : Int))) := by
        simp only [F3_l7_b, e0, e1, hb, hp, Option.bind_some, wi, hdg]
        rw [if_pos (by simpa using h300), if_neg (by simp; omega), if_neg (by simp; omega), if_neg (by simp; omega)]
      rw [this]
      exact ih (f + q) (i + 1) m (by omega) (by omega) (by omega) (by omega)
    · rw [if_neg hlt] at hp
      have hk2 : f + q = kk := by omega
      rw [hk2] at hp
      have : F3_l7_b 1000 a0 a1 (dgt f, (f : Int), (i : Int)) = some (.inr (.inr true)) := by
        simp only [F3_l7_b, e0, e1, hb, hp, Option.bind_some]
        rw [if_pos (by simpa using h300), if_neg (by simp; omega), if_pos (by simp)]
        simp
      rw [this]
      rfl
theorem whole (a0 a1 : Int) : F3 1000 a0 a1 = some true := by
  obtain ⟨kk, hk, e0⟩ := tmodw a0 200 (by omega) (by omega)
  obtain ⟨j, hj, e1⟩ := tmodw a1 9 (by omega) (by omega)
  have := whole_loop hk hj e0 e1 200 0 0 1000 (by omega) (by omega) (by omega) (by omega)
  have hd : dgt 0 = [48] := rfl
  rw [hd] at this
  unfold F3
  simp only [F8, Option.bind_some, Bool.not_true, Bool.false_eq_true, if_false]
  have e : F3_l7 1000 a0 a1 1000 ([48], 0, 0) = some (.inr true) := this
  rw [e]
  rfl
theorem viewWhole_ev (a b : Int) : ∃ k h d, evalF cfg k 3 [.int .i64 a, .int .i64 b] [] = some (.bool true, h, d) := law_of_ret (F3_ok (whole a b)) (by simp)
end Go.Proofs.Ytpfdfilkhaoibaa

/-
  slices.Insert at writes: the runs of its text.
-/
namespace Go.Proofs.Ytpfdfilkhaoibaa
open Go Ev
set_option linter.unusedVariables false
set_option linter.unusedSimpArgs false
set_option maxRecDepth 10000
noncomputable abbrev IC := insC Try.prog 105 155 9
@[simp] theorem icP : IC.P = Try.prog := rfl
@[simp] theorem icA : IC.arrOf 105 = true := rfl
theorem icO : IC.hprim 155 = some (overlapsA 9) := rfl
def zW : AV := .agg [.str [], .int .i64 0, .bool false, .int .i64 0, .int .i64 0, .str [], .nils, .nils, .nils]
theorem ins_nils (h : Heap) (v : AV) (nn) (c t : Option Nat) (hl : v.cells.length = 9) : ∃ k, evalF IC k 105 [.nils, .int .i64 0, .list [v] nn c t] h = some (.slice h.length 0 1 1 9 false, h ++ [.cells v.cells], false) := by
  cases v with
  | agg cs =>
  simp at hl
  refine evalF_of (fn := Try.f105) (by simp [IC, insC]) Try.func105 rfl (by simp [AV.clean]) ?_
  refine Ev.seq (Ev.region ?_)
  apply EvOps.run
  · intro call; simp [Try.f105]; exact rfl
  refine Ev.seq (Ev.region ?_)
  apply EvOps.run
  · intro call; simp [sliceA]; exact rfl
  refine Ev.seq (Ev.region ?_)
  apply EvOps.run
  · intro call; simp; exact rfl
  refine Ev.seq (Ev.seq (Ev.region ?_))
  apply EvOps.run
  · intro call; simp; exact rfl
  refine Ev.cond _ (by simp; rfl) (fun hc => ?_) (fun hc => Ev.skip ?_)
  · cases hc
  refine Ev.seq (Ev.region ?_)
  apply EvOps.run
  · intro call; simp; exact rfl
  refine Ev.seq (Ev.seq (Ev.region ?_))
  apply EvOps.run
  · intro call; simp; exact rfl
  refine Ev.cond _ (by simp; rfl) (fun hc => ?_) (fun hc => by cases hc)
  refine Ev.seq (Ev.region ?_)
  apply EvOps.run
  · intro call; simp [appendA, elemsA, newsA, appendable, hl, stripE, wrDirty]; exact rfl
  exact Ev.ret ⟨by simp, by simp, by simp, by simp⟩
  | _ => simp at hl
theorem ins_none (h : Heap) (v : AV) (n0) (t0 : Option Nat) (nn) (c t : Option Nat) (hl : v.cells.length = 9) : ∃ k, evalF IC k 105 [.list [] n0 (some 0) t0, .int .i64 0, .list [v] nn c t] h = some (.slice h.length 0 1 1 9 false, h ++ [.cells v.cells], false) := by
  cases v with
  | agg cs =>
  simp at hl
  refine evalF_of (fn := Try.f105) (by simp [IC, insC]) Try.func105 rfl (by simp [AV.clean]) ?_
  refine Ev.seq (Ev.region ?_)
  apply EvOps.run
  · intro call; simp [Try.f105]; exact rfl
  refine Ev.seq (Ev.region ?_)
  apply EvOps.run
  · intro call; simp [sliceA]; exact rfl
  refine Ev.seq (Ev.region ?_)
  apply EvOps.run
  · intro call; simp; exact rfl
  refine Ev.seq (Ev.seq (Ev.region ?_))
  apply EvOps.run
  · intro call; simp; exact rfl
  refine Ev.cond _ (by simp; rfl) (fun hc => ?_) (fun hc => Ev.skip ?_)
  · cases hc
  refine Ev.seq (Ev.region ?_)
  apply EvOps.run
  · intro call; simp; exact rfl
  refine Ev.seq (Ev.seq (Ev.region ?_))
  apply EvOps.run
  · intro call; simp; exact rfl
  refine Ev.cond _ (by simp; rfl) (fun hc => ?_) (fun hc => by cases hc)
  refine Ev.seq (Ev.region ?_)
  apply EvOps.run
  · intro call; simp [appendA, elemsA, newsA, appendable, hl, stripE, wrDirty]; exact rfl
  exact Ev.ret ⟨by simp, by simp, by simp, by simp⟩
  | _ => simp at hl
theorem ins_last (h : Heap) (v : AV) (nn) (c t : Option Nat) (b len : Nat) (cs : List AV) (hl : v.cells.length = 9) (hb : h[b]? = some (.cells cs)) (hcs : len * 9 ≤ cs.length) (hb1 : (len + 1) * 136 ≤ 35184372088832) (hb2 : len + 1 ≤ 4294967296) :
    ∃ k d, evalF IC k 105 [.slice b 0 len len 9 false, .int .i64 len, .list [v] nn c t] h = some (.slice h.length 0 (len + 1) (len + 1) 9 false, h.set b .dead ++ [.cells (cs.take (len * 9) ++ v.cells)], d) := by
  cases v with
  | agg vs =>
  simp at hl
  have hbl := (List.getElem?_eq_some_iff.1 hb).1
  have wrD : wrDirty h.length (some b) = true := by simp [wrDirty, hbl]
  clear hbl
  have h0 : (0 : Int) ≤ len := by omega
  suffices hs : ∃ k, evalF IC k 105 [.slice b 0 len len 9 false, .int .i64 len, .list [.agg vs] nn c t] h = some (.slice h.length 0 (len + 1) (len + 1) 9 false, h.set b .dead ++ [.cells (cs.take (len * 9) ++ vs)], true) by
    obtain ⟨k, hk⟩ := hs; exact ⟨k, true, hk⟩
  refine evalF_of (fn := Try.f105) (by simp [IC, insC]) Try.func105 rfl (by simp [AV.clean]) ?_
  refine Ev.seq (Ev.region ?_)
  apply EvOps.run
  · intro call; simp [Try.f105]; exact rfl
  refine Ev.seq (Ev.region ?_)
  apply EvOps.run
  · intro call; simp [sliceA]; exact rfl
  refine Ev.seq (Ev.region ?_)
  apply EvOps.run
  · intro call; simp; exact rfl
  refine Ev.seq (Ev.seq (Ev.region ?_))
  apply EvOps.run
  · intro call; simp; exact rfl
  refine Ev.cond _ (by simp; rfl) (fun hc => ?_) (fun hc => Ev.skip ?_)
  · cases hc
  refine Ev.seq (Ev.region ?_)
  apply EvOps.run
  · intro call; simp; exact rfl
  refine Ev.seq (Ev.seq (Ev.region ?_))
  apply EvOps.run
  · intro call; simp; exact rfl
  refine Ev.cond true (by simp) (fun hc => ?_) (fun hc => by cases hc)
  refine Ev.seq (Ev.region ?_)
  apply EvOps.run
  · intro call; simp [appendA, appendS_last (h := h) (n := 9) (by_ := 136) (ys := [.agg vs]) (b := b) (len := len) (by simp) (by simp) hb1 (by simp; omega) hb hcs, elemsA, newsA, appendable, hl, stripE, wrD]; exact rfl
  exact Ev.ret ⟨by simp, by simp, by simp, by simp⟩
  | _ => simp at hl
theorem ins_grow (h : Heap) (v : AV) (nn) (c t : Option Nat) (b len cap i : Nat) (cs : List AV) (hl : v.cells.length = 9) (hb : h[b]? = some (.cells cs)) (hcap : cap * 9 ≤ cs.length) (hi : i < len) (hlc : len ≤ cap) (hroom : cap < len + 1) (hb1 : (len + 1) * 136 ≤ 35184372088832) (hb2 : len + 1 ≤ 4294967296)
    (ho : ∀ x ∈ cs, x.one = true) (hv1 : v.cells.all AV.one = true) :
    ∃ k d, evalF IC k 105 [.slice b 0 len cap 9 true, .int .i64 i, .list [v] nn c t] h = some (.slice h.length 0 (len + 1) (len + 1) 9 false, h ++ [.cells (cs.take (i * 9) ++ v.cells ++ (cs.take (len * 9)).drop (i * 9))], d) := by
  cases v with
  | agg vs =>
  simp at hl
  obtain rfl : len = cap := by omega
  suffices hs : ∃ k, evalF IC k 105 [.slice b 0 len len 9 true, .int .i64 i, .list [.agg vs] nn c t] h = some (.slice h.length 0 (len + 1) (len + 1) 9 false, h ++ [.cells (cs.take (i * 9) ++ vs ++ (cs.take (len * 9)).drop (i * 9))], false) by
    obtain ⟨k, hk⟩ := hs; exact ⟨k, false, hk⟩
  have w1 : IntKind.wrap .i64 ((len : Int) + 1) = ((len + 1 : Nat) : Int) := wrap_succ len (by omega)
  obtain ⟨q, hq⟩ : ∃ q, i + q = len + 1 := ⟨len + 1 - i, by omega⟩
  have w2 : IntKind.wrap .i64 ((len : Int) + 1 - (i : Int)) = (q : Int) := by rw [show (len : Int) + 1 - (i : Int) = (q : Int) by omega]; exact wrap_nat _ (by omega)
  have w3 : IntKind.wrap .i64 ((i : Int) + 1) = ((i + 1 : Nat) : Int) := wrap_succ i (by omega)
  have wrD : wrDirty h.length (some h.length) = false := by simp [wrDirty]
  have hbl := (List.getElem?_eq_some_iff.1 hb).1
  have hi1 : sliceA Try.prog 58 (.slice b 0 len len 9 true) none (some (.int .i64 (i : Int))) none = some (.slice b 0 i len 9 true) := sliceA_hi (e := 142) (by simp) (by simp) (by omega) (by omega)
  have hz : tyZero Try.prog 142 = some zW := by simp [zW]
  have hap : appendA Try.prog true [58, 3] h (.slice b 0 i len 9 true) (.int .i64 (q : Int)) = some (.slice h.length 0 (len + 1) (len + 1) 9 false, h ++ [.cells (cs.take (i * 9) ++ (List.replicate q zW).flatMap AV.cells)], none) := by
    have := appendS_out (h := h) (n := 9) (by_ := 136) (ys := List.replicate q zW) (b := b) (o := 0) (len := i) (cap := len) (cs := cs) (by simp; omega) (by simp) (by simp; omega) (by simp; omega) hb (by omega) (by simp; omega)
    simp only [List.length_replicate, hq, List.drop_zero] at this
    simp [appendA, newsA, zW, (by omega : (q : Int) ≤ 4294967296), (by omega : (q : Int) * 136 ≤ 35184372088832)]
    simpa [zW] using this
  have hZ : ((List.replicate q zW).flatMap AV.cells).length = q * 9 := by simp [zW, List.flatMap_replicate]
  have hA : (cs.take (i * 9)).length = i * 9 := by rw [List.length_take]; omega
  generalize (List.replicate q zW).flatMap AV.cells = Z at hap hZ
  have hi2 : sliceA Try.prog 58 (.slice h.length 0 (len + 1) (len + 1) 9 false) (some (.int .i64 (i : Int))) none none = some (.slice h.length (i * 9) q q 9 false) := by
    have := sliceA_lo (P := Try.prog) (t := 58) (e := 142) (b := h.length) (o := 0) (len := len + 1) (cap := len + 1) (n := 9) (k := i) (ex := false) (by simp) (by simp) (by omega) (by omega) (by omega)
    rw [this]; simp; omega
  have hget1 : (h ++ [AO.cells (cs.take (i * 9) ++ Z)])[h.length]? = some (.cells (cs.take (i * 9) ++ Z)) := by simp
  have hcp1 : copyA Try.prog [58, 58] (h ++ [.cells (cs.take (i * 9) ++ Z)]) (.slice h.length (i * 9) q q 9 false) (.list [.agg vs] nn c t) = some (.int .i64 1, h ++ [.cells (splice (cs.take (i * 9) ++ Z) (i * 9) vs)], some h.length) := by
    have := copyA_to (P := Try.prog) (t := 58) (e := 142) (ts := [58]) (o := i * 9) (len := q) (cap := q) (n := 9) (n' := 9) (ex := false) (src := .list [.agg vs] nn c t) (ys := [.agg vs]) (vs := vs) (by simp) (by simp) (by simp [elemsA, hl]) hget1 (k := 1) (by simp; omega) (by simp [hA, hZ]; omega) (by simp)
    rw [this]; simp
  have hi3 : sliceA Try.prog 58 (.slice h.length 0 (len + 1) (len + 1) 9 false) (some (.int .i64 ((i : Int) + 1))) none none = some (.slice h.length ((i + 1) * 9) (len - i) (len - i) 9 false) := by
    have := sliceA_lo (P := Try.prog) (t := 58) (e := 142) (b := h.length) (o := 0) (len := len + 1) (cap := len + 1) (n := 9) (k := i + 1) (ex := false) (by simp) (by simp) (by omega) (by omega) (by omega)
    have e : (((i + 1 : Nat)) : Int) = (i : Int) + 1 := by simp
    rw [e] at this
    rw [this]; simp
  have hi4 : sliceA Try.prog 58 (.slice b 0 len len 9 true) (some (.int .i64 (i : Int))) none none = some (.slice b (i * 9) (len - i) (len - i) 9 true) := by
    have := sliceA_lo (P := Try.prog) (t := 58) (e := 142) (b := b) (o := 0) (len := len) (cap := len) (n := 9) (k := i) (ex := true) (by simp) (by simp) (by omega) (by omega) (by omega)
    rw [this]; simp
  obtain ⟨B, hB⟩ : ∃ B, B = (cs.take (len * 9)).drop (i * 9) := ⟨_, rfl⟩
  have hBl : B.length = (len - i) * 9 := by rw [hB, List.length_drop, List.length_take]; omega
  have hC2 : splice (splice (cs.take (i * 9) ++ Z) (i * 9) vs) ((i + 1) * 9) B = cs.take (i * 9) ++ vs ++ B := by
    rw [show (i + 1) * 9 = i * 9 + 9 by omega]
    exact ins_list1 hA hl (by rw [hZ, hBl]; omega)
  have hlen2 : (splice (cs.take (i * 9) ++ Z) (i * 9) vs).length = i * 9 + q * 9 := by
    rw [splice_length _ _ _ (by simp [hA, hZ, hl]; omega)]; simp [hA, hZ]
  have hget2 : (h ++ [AO.cells (splice (cs.take (i * 9) ++ Z) (i * 9) vs)])[h.length]? = some (.cells (splice (cs.take (i * 9) ++ Z) (i * 9) vs)) := by simp
  have hgetb : (h ++ [AO.cells (splice (cs.take (i * 9) ++ Z) (i * 9) vs)])[b]? = some (.cells cs) := by rw [List.getElem?_append_left hbl]; exact hb
  have hcp2 : copyA Try.prog [58, 58] (h ++ [.cells (splice (cs.take (i * 9) ++ Z) (i * 9) vs)]) (.slice h.length ((i + 1) * 9) (len - i) (len - i) 9 false) (.slice b (i * 9) (len - i) (len - i) 9 true) =
      some (.int .i64 ((len - i : Nat) : Int), h ++ [.cells (cs.take (i * 9) ++ vs ++ B)], some h.length) := by
    have hel := elemsA_arr (n := 9) (n' := 9) (o := i * 9) (len := len - i) (cap := len - i) (ex := true) hgetb (by omega)
    have hfl := flat_chunk (n := 9) (len - i) (cs.drop (i * 9)) (fun x hx => ho x (List.mem_of_mem_drop hx)) (by simp; omega) (len - i) (Nat.le_refl _)
    have := copyA_to (P := Try.prog) (t := 58) (e := 142) (ts := [58]) (o := (i + 1) * 9) (len := len - i) (cap := len - i) (n := 9) (n' := 9) (ex := false) (vs := B) (by simp) (by simp) hel hget2 (k := len - i) (by simp [chunkA_length]) (by rw [hlen2]; omega) (by rw [hfl, hB, List.drop_take]; congr 1; omega)
    rw [this, hC2]; simp
  rw [← hB]
  clear hget1 hget2 hgetb hbl
  refine evalF_of (fn := Try.f105) (by simp [IC, insC]) Try.func105 rfl (by simp [AV.clean]) ?_
  refine Ev.seq (Ev.region ?_)
  apply EvOps.run
  · intro call; simp [Try.f105]; exact rfl
  refine Ev.seq (Ev.region ?_)
  apply EvOps.run
  · intro call; simp [hi4]; exact rfl
  refine Ev.seq (Ev.region ?_)
  apply EvOps.run
  · intro call; simp; exact rfl
  refine Ev.seq (Ev.seq (Ev.region ?_))
  apply EvOps.run
  · intro call; simp; exact rfl
  refine Ev.cond _ (by simp; rfl) (fun hc => ?_) (fun hc => Ev.skip ?_)
  · cases hc
  refine Ev.seq (Ev.region ?_)
  apply EvOps.run
  · intro call; simp; exact rfl
  refine Ev.seq (Ev.seq (Ev.region ?_))
  apply EvOps.run
  · intro call; simp; exact rfl
  refine Ev.cond false (by simp; omega) (fun hc => by cases hc) (fun hc => Ev.skip ?_)
  refine Ev.seq (Ev.seq (Ev.region ?_))
  apply EvOps.run
  · intro call; simp [capA, w1]; exact rfl
  refine Ev.cond true (by simp; omega) (fun hc => ?_) (fun hc => by cases hc)
  refine Ev.seq (Ev.region ?_)
  apply EvOps.run
  · intro call; simp [hi1, w1, w2, hap, stripE, wrDirty]; exact rfl
  refine Ev.seq (Ev.region ?_)
  apply EvOps.run
  · intro call; simp [hi2, hcp1, wrD]; exact rfl
  refine Ev.seq (Ev.region ?_)
  apply EvOps.run
  · intro call; simp [hi3, hi4, w3, hcp2, wrD]; exact rfl
  refine Ev.seq (Ev.region ?_)
  apply EvOps.run
  · intro call; simp; exact rfl
  exact Ev.ret ⟨by simp, by simp, by simp, by simp⟩
  | _ => simp at hl
theorem ins_room (h : Heap) (v : AV) (nn) (c t : Option Nat) (b len cap i : Nat) (cs : List AV) (hl : v.cells.length = 9) (hb : h[b]? = some (.cells cs)) (hcap : cap * 9 ≤ cs.length) (hi : i < len) (hroom : len + 1 ≤ cap) (hb2 : len + 1 ≤ 4294967296)
    (ho : ∀ x ∈ cs, x.one = true) (hv1 : v.cells.all AV.one = true) :
    ∃ k d cs', evalF IC k 105 [.slice b 0 len cap 9 true, .int .i64 i, .list [v] nn c t] h = some (.slice b 0 (len + 1) cap 9 true, h.set b (.cells cs'), d) ∧ (len + 1) * 9 ≤ cs'.length ∧ cs'.take ((len + 1) * 9) = cs.take (i * 9) ++ v.cells ++ (cs.take (len * 9)).drop (i * 9) := by
  cases v with
  | agg vs =>
  simp at hl
  have w1 : IntKind.wrap .i64 ((len : Int) + 1) = ((len + 1 : Nat) : Int) := wrap_succ len (by omega)
  have w3 : IntKind.wrap .i64 ((i : Int) + 1) = ((i + 1 : Nat) : Int) := wrap_succ i (by omega)
  have hbl := (List.getElem?_eq_some_iff.1 hb).1
  have wrD : wrDirty h.length (some b) = true := by simp [wrDirty, hbl]
  have hi0 : sliceA Try.prog 58 (.slice b 0 len cap 9 true) (some (.int .i64 (i : Int))) none none = some (.slice b (i * 9) (len - i) (cap - i) 9 true) := by
    have := sliceA_lo (P := Try.prog) (t := 58) (e := 142) (b := b) (o := 0) (len := len) (cap := cap) (n := 9) (k := i) (ex := true) (by simp) (by simp) (by omega) (by omega) (by omega)
    rw [this]; simp
  have hi1 : sliceA Try.prog 58 (.slice b 0 len cap 9 true) none (some (.int .i64 ((len : Int) + 1))) none = some (.slice b 0 (len + 1) cap 9 true) := by
    have := sliceA_hi (P := Try.prog) (t := 58) (e := 142) (b := b) (o := 0) (len := len) (cap := cap) (n := 9) (k := len + 1) (ex := true) (by simp) (by simp) (by omega) (by omega)
    have e : (((len + 1 : Nat)) : Int) = (len : Int) + 1 := by simp
    rw [e] at this
    exact this
  have hi2 : sliceA Try.prog 58 (.slice b 0 (len + 1) cap 9 true) (some (.int .i64 ((i : Int) + 1))) none none = some (.slice b ((i + 1) * 9) (len - i) (cap - (i + 1)) 9 true) := by
    have := sliceA_lo (P := Try.prog) (t := 58) (e := 142) (b := b) (o := 0) (len := len + 1) (cap := cap) (n := 9) (k := i + 1) (ex := true) (by simp) (by simp) (by omega) (by omega) (by omega)
    have e : (((i + 1 : Nat)) : Int) = (i : Int) + 1 := by simp
    rw [e] at this
    rw [this]; simp
  have hi3 : sliceA Try.prog 58 (.slice b 0 (len + 1) cap 9 true) (some (.int .i64 (i : Int))) none none = some (.slice b (i * 9) (len + 1 - i) (cap - i) 9 true) := by
    have := sliceA_lo (P := Try.prog) (t := 58) (e := 142) (b := b) (o := 0) (len := len + 1) (cap := cap) (n := 9) (k := i) (ex := true) (by simp) (by simp) (by omega) (by omega) (by omega)
    rw [this]; simp
  obtain ⟨x, cs1, hcs⟩ : ∃ x cs1, cs = x :: cs1 := by
    cases cs with
    | nil => simp at hcap; omega
    | cons x cs1 => exact ⟨x, cs1, rfl⟩
  have hov : overlapsA 9 [.list [.agg vs] nn c t, .slice b ((i + 1) * 9) (len - i) (cap - (i + 1)) 9 true] h = some (.bool false, h, false) := by
    rw [hcs] at hb
    simp [overlapsA, hb, hl]
  obtain ⟨B, hB⟩ : ∃ B, B = (cs.take (len * 9)).drop (i * 9) := ⟨_, rfl⟩
  have hBl : B.length = (len - i) * 9 := by rw [hB, List.length_drop, List.length_take]; omega
  have hcp1 : copyA Try.prog [58, 58] h (.slice b ((i + 1) * 9) (len - i) (cap - (i + 1)) 9 true) (.slice b (i * 9) (len + 1 - i) (cap - i) 9 true) = some (.int .i64 ((len - i : Nat) : Int), h.set b (.cells (splice cs ((i + 1) * 9) B)), some b) := by
    have hel := elemsA_arr (n := 9) (n' := 9) (o := i * 9) (len := len + 1 - i) (cap := cap - i) (ex := true) hb (by omega)
    have hfl := flat_chunk (n := 9) (len + 1 - i) (cs.drop (i * 9)) (fun x hx => ho x (List.mem_of_mem_drop hx)) (by simp; omega) (len - i) (by omega)
    exact copyA_to (P := Try.prog) (t := 58) (e := 142) (ts := [58]) (o := (i + 1) * 9) (len := len - i) (cap := cap - (i + 1)) (n := 9) (n' := 9) (ex := true) (vs := B) (by simp) (by simp) hel hb (k := len - i) (by simp [chunkA_length]; omega) (by omega) (by rw [hfl, hB, List.drop_take]; congr 1; omega)
  have hget2 : (h.set b (AO.cells (splice cs ((i + 1) * 9) B)))[b]? = some (.cells (splice cs ((i + 1) * 9) B)) := List.getElem?_set_self hbl
  have hl2 : (splice cs ((i + 1) * 9) B).length = cs.length := splice_length _ _ _ (by omega)
  have hcp2 : copyA Try.prog [58, 58] (h.set b (.cells (splice cs ((i + 1) * 9) B))) (.slice b (i * 9) (len + 1 - i) (cap - i) 9 true) (.list [.agg vs] nn c t) = some (.int .i64 1, h.set b (.cells (splice (splice cs ((i + 1) * 9) B) (i * 9) vs)), some b) := by
    have := copyA_to (P := Try.prog) (t := 58) (e := 142) (ts := [58]) (o := i * 9) (len := len + 1 - i) (cap := cap - i) (n := 9) (n' := 9) (ex := true) (src := .list [.agg vs] nn c t) (ys := [.agg vs]) (vs := vs) (by simp) (by simp) (by simp [elemsA, hl]) hget2 (k := 1) (by simp; omega) (by rw [hl2]; omega) (by simp)
    rw [this, List.set_set]; simp
  have hfin : (splice (splice cs ((i + 1) * 9) B) (i * 9) vs).take ((len + 1) * 9) = cs.take (i * 9) ++ vs ++ B := by
    have := ins_list2 (cs := cs) (vs := vs) (B := B) (a := i * 9) (n := 9) hl (by omega)
    rw [show i * 9 + 9 = (i + 1) * 9 by omega] at this
    rw [← this]; congr 1; omega
  have hll : (len + 1) * 9 ≤ (splice (splice cs ((i + 1) * 9) B) (i * 9) vs).length := by
    rw [splice_length _ _ _ (by rw [hl2]; omega), hl2]; omega
  rw [← hB]
  suffices hs : ∃ k, evalF IC k 105 [.slice b 0 len cap 9 true, .int .i64 i, .list [.agg vs] nn c t] h = some (.slice b 0 (len + 1) cap 9 true, h.set b (.cells (splice (splice cs ((i + 1) * 9) B) (i * 9) vs)), true) by
    obtain ⟨k, hk⟩ := hs; exact ⟨k, true, _, hk, hll, hfin⟩
  have hcl : (AV.slice b 0 (len + 1) cap 9 true).clean h.length = true := by simp [AV.clean, hbl]
  clear hget2 hbl hfin hll hl2 hcs
  refine evalF_of (fn := Try.f105) (by simp [IC, insC]) Try.func105 rfl (by simp) ?_
  refine Ev.seq (Ev.region ?_)
  apply EvOps.run
  · intro call; simp [Try.f105]; exact rfl
  refine Ev.seq (Ev.region ?_)
  apply EvOps.run
  · intro call; simp [hi0]; exact rfl
  refine Ev.seq (Ev.region ?_)
  apply EvOps.run
  · intro call; simp; exact rfl
  refine Ev.seq (Ev.seq (Ev.region ?_))
  apply EvOps.run
  · intro call; simp; exact rfl
  refine Ev.cond _ (by simp; rfl) (fun hc => ?_) (fun hc => Ev.skip ?_)
  · cases hc
  refine Ev.seq (Ev.region ?_)
  apply EvOps.run
  · intro call; simp; exact rfl
  refine Ev.seq (Ev.seq (Ev.region ?_))
  apply EvOps.run
  · intro call; simp; exact rfl
  refine Ev.cond false (by simp; omega) (fun hc => by cases hc) (fun hc => Ev.skip ?_)
  refine Ev.seq (Ev.seq (Ev.region ?_))
  apply EvOps.run
  · intro call; simp [capA, w1]; exact rfl
  refine Ev.cond false (by simp; omega) (fun hc => by cases hc) (fun hc => Ev.skip ?_)
  refine Ev.seq (Ev.region ?_)
  apply EvOps.run
  · intro call; simp [w1, hi1]; exact rfl
  refine Ev.seq (Ev.seq (Ev.region ?_))
  apply EvOps.run
  · intro call; simp [w3, hi2, callF, icO, hov]; exact rfl
  refine Ev.cond true (by simp) (fun hc => ?_) (fun hc => by cases hc)
  refine Ev.seq (Ev.region ?_)
  apply EvOps.run
  · intro call; simp [w3, hi2, hi3, hcp1, wrD]; exact rfl
  refine Ev.seq (Ev.region ?_)
  apply EvOps.run
  · intro call; simp [hi3, hcp2, wrD]; exact rfl
  refine Ev.seq (Ev.region ?_)
  apply EvOps.run
  · intro call; simp; exact rfl
  exact Ev.ret ⟨by simp, by simp, by simp, by simp⟩
  | _ => simp at hl
theorem insW : InsRuns Try.prog 105 155 9 136 where
  nils := ins_nils
  none := ins_none
  last := ins_last
  room := ins_room
  grow := ins_grow
theorem insW_over (us : Array Value) (w : World) : (callFunc 155 us).run Try.prog w = ((do pure (.value (← Extern.SlicesOverlaps.overlaps #[58, 58] #[4] us))) : Sem Next).run Try.prog w := by
  rw [run_callFunc_extern Try.func155 (by kernel_rfl) (by kernel_rfl) (by kernel_rfl) (e := Extern.SlicesOverlaps.overlaps #[58, 58] #[4]) (by kernel_rfl)]
  simp only [Sem.run_bind, Sem.run_pure]
end Go.Proofs.Ytpfdfilkhaoibaa

/-
  What the kernel looks through: the configuration is sound; arguments of the laws. Written by program (cl.py).
-/
namespace Go.Proofs.Ytpfdfilkhaoibaa
open Go Ev Go.RowKit Go.ChangeShapes Go.WideShapes
set_option linter.unusedVariables false
set_option linter.unusedSimpArgs false
set_option maxRecDepth 100000

/-- slices.Clone by itself. -/
noncomputable def cfgC : Cfg where
  P := Try.prog
  mode := fun f => if [106, 107, 108].contains f then .impure else .no
  prim := fun _ => none
@[simp] theorem cfgCP : cfgC.P = Try.prog := rfl
theorem cfgC_in : ∀ f, cfgC.mode f ≠ .no → f ∈ [106, 107, 108] := by
  intro f hf
  by_cases h : [106, 107, 108].contains f = true
  · simpa using h
  · simp only [cfgC, h] at hf; simp at hf
theorem cfgC_fns : fnsOk cfgC [106, 107, 108] = true := by kernel_rfl
theorem cfgC_bodies : BodiesOk cfgC := bodiesOk_of cfgC_fns cfgC_in
theorem cfgC_ok : CfgOk cfgC := cfgOk_of (primSpec_none fun _ => rfl) cfgC_fns cfgC_in
theorem mixed : Try.prog.follows .mixedOrders = true := Checked.mixed Try.checked
theorem clone106_nil : ∃ k v0 h d, evalF cfgC k 106 [.nils] [] = some (v0, h, d) ∧ v0.strip = .L [] := by
  refine run_of_body (by decide) Try.func106 rfl ?_
  refine Ev.seq (Ev.region ?_)
  apply EvOps.run
  · intro call; simp [Try.f106]; exact rfl
  refine Ev.seq (Ev.seq (Ev.region ?_))
  apply EvOps.run
  · intro call; simp; exact rfl
  refine Ev.cond true (by simp) (fun _ => ?_) (fun h => by simp at h)
  refine Ev.seq (Ev.region ?_)
  apply EvOps.run
  · intro call; simp; exact rfl
  exact Ev.ret ⟨.nils, by simp [Try.f106], by simp⟩
theorem clone106_list (xs : List AV) (hh : headOk 2 xs = true) (hb : xs.length ≤ 268435456) : ∃ k v0 h d, evalF cfgC k 106 [.list xs true none none] [] = some (v0, h, d) ∧ v0.strip = .L (stripL xs) := by
  refine run_of_body (by decide) Try.func106 rfl ?_
  refine Ev.seq (Ev.region ?_)
  apply EvOps.run
  · intro call; simp [Try.f106]; exact rfl
  refine Ev.seq (Ev.seq (Ev.region ?_))
  apply EvOps.run
  · intro call; simp; exact rfl
  refine Ev.cond false (by simp) (fun h => by simp at h) (fun _ => Ev.skip ?_)
  refine Ev.seq (Ev.region (EvOps.take 2 ?_))
  apply EvOps.run
  · intro call; simp [buildSliceA]; exact rfl
  refine EvOps.appendG (xs := []) (ys := xs) (zs := stripL xs) (x := .list [] true (some 0) none) (y := .list xs true none none) (n := 2) (t := 66) (u := 66) (e := 89) rfl rfl (by simp) (by simp) Try.underlying66 Try.underlying66 rfl Ty.s89 Ty.b89 Ty.z89 rfl (.inr (.inr ⟨true, rfl⟩)) (by simp) (by simp [elemsA, hh]) (by simp only [List.length_nil]; omega) (by simp [tokOf]) (by simp) (by simp) ?_
  intro out h1 hg _ _
  apply EvOps.run
  · intro call; simp; exact rfl
  exact Ev.ret ⟨out, by simp [Try.f106], by rw [hg.strip, stripL_idem]⟩
theorem clone107_nil : ∃ k v0 h d, evalF cfgC k 107 [.nils] [] = some (v0, h, d) ∧ v0.strip = .L [] := by
  refine run_of_body (by decide) Try.func107 rfl ?_
  refine Ev.seq (Ev.region ?_)
  apply EvOps.run
  · intro call; simp [Try.f107]; exact rfl
  refine Ev.seq (Ev.seq (Ev.region ?_))
  apply EvOps.run
  · intro call; simp; exact rfl
  refine Ev.cond true (by simp) (fun _ => ?_) (fun h => by simp at h)
  refine Ev.seq (Ev.region ?_)
  apply EvOps.run
  · intro call; simp; exact rfl
  exact Ev.ret ⟨.nils, by simp [Try.f107], by simp⟩
theorem clone107_list (xs : List AV) (hh : headOk 1 xs = true) (hb : xs.length ≤ 268435456) : ∃ k v0 h d, evalF cfgC k 107 [.list xs true none none] [] = some (v0, h, d) ∧ v0.strip = .L (stripL xs) := by
  refine run_of_body (by decide) Try.func107 rfl ?_
  refine Ev.seq (Ev.region ?_)
  apply EvOps.run
  · intro call; simp [Try.f107]; exact rfl
  refine Ev.seq (Ev.seq (Ev.region ?_))
  apply EvOps.run
  · intro call; simp; exact rfl
  refine Ev.cond false (by simp) (fun h => by simp at h) (fun _ => Ev.skip ?_)
  refine Ev.seq (Ev.region (EvOps.take 2 ?_))
  apply EvOps.run
  · intro call; simp [buildSliceA]; exact rfl
  refine EvOps.appendG (xs := []) (ys := xs) (zs := stripL xs) (x := .list [] true (some 0) none) (y := .list xs true none none) (n := 1) (t := 44) (u := 44) (e := 9) rfl rfl (by simp) (by simp) Try.underlying44 Try.underlying44 rfl Ty.s9 Ty.b9 Ty.z9 rfl (.inr (.inr ⟨true, rfl⟩)) (by simp) (by simp [elemsA, hh]) (by simp only [List.length_nil]; omega) (by simp [tokOf]) (by simp) (by simp) ?_
  intro out h1 hg _ _
  apply EvOps.run
  · intro call; simp; exact rfl
  exact Ev.ret ⟨out, by simp [Try.f107], by rw [hg.strip, stripL_idem]⟩
theorem clone108_nil : ∃ k v0 h d, evalF cfgC k 108 [.nils] [] = some (v0, h, d) ∧ v0.strip = .L [] := by
  refine run_of_body (by decide) Try.func108 rfl ?_
  refine Ev.seq (Ev.region ?_)
  apply EvOps.run
  · intro call; simp [Try.f108]; exact rfl
  refine Ev.seq (Ev.seq (Ev.region ?_))
  apply EvOps.run
  · intro call; simp; exact rfl
  refine Ev.cond true (by simp) (fun _ => ?_) (fun h => by simp at h)
  refine Ev.seq (Ev.region ?_)
  apply EvOps.run
  · intro call; simp; exact rfl
  exact Ev.ret ⟨.nils, by simp [Try.f108], by simp⟩
theorem clone108_list (xs : List AV) (hh : headOk 2 xs = true) (hb : xs.length ≤ 268435456) : ∃ k v0 h d, evalF cfgC k 108 [.list xs true none none] [] = some (v0, h, d) ∧ v0.strip = .L (stripL xs) := by
  refine run_of_body (by decide) Try.func108 rfl ?_
  refine Ev.seq (Ev.region ?_)
  apply EvOps.run
  · intro call; simp [Try.f108]; exact rfl
  refine Ev.seq (Ev.seq (Ev.region ?_))
  apply EvOps.run
  · intro call; simp; exact rfl
  refine Ev.cond false (by simp) (fun h => by simp at h) (fun _ => Ev.skip ?_)
  refine Ev.seq (Ev.region (EvOps.take 2 ?_))
  apply EvOps.run
  · intro call; simp [buildSliceA]; exact rfl
  refine EvOps.appendG (xs := []) (ys := xs) (zs := stripL xs) (x := .list [] true (some 0) none) (y := .list xs true none none) (n := 2) (t := 67) (u := 67) (e := 212) rfl rfl (by simp) (by simp) Try.underlying67 Try.underlying67 rfl Ty.s212 Ty.b212 Ty.z212 rfl (.inr (.inr ⟨true, rfl⟩)) (by simp) (by simp [elemsA, hh]) (by simp only [List.length_nil]; omega) (by simp [tokOf]) (by simp) (by simp) ?_
  intro out h1 hg _ _
  apply EvOps.run
  · intro call; simp; exact rfl
  exact Ev.ret ⟨out, by simp [Try.f108], by rw [hg.strip, stripL_idem]⟩
theorem cfg_in : ∀ f, cfg.mode f ≠ .no → f ∈ pures ++ impures := by
  intro f hf
  by_cases h : pures.contains f = true
  · simp only [List.mem_append]; exact .inl (by simpa using h)
  · by_cases h' : impures.contains f = true
    · simp only [List.mem_append]; exact .inr (by simpa using h')
    · simp only [cfg, h, h'] at hf; simp at hf
theorem fns : fnsOk cfg (pures ++ impures) = true := by kernel_rfl
theorem clone_spec {g n : Nat} (hm : cfgC.mode g ≠ .no) (h0 : ∃ k v0 h d, evalF cfgC k g [.nils] [] = some (v0, h, d) ∧ v0.strip = .L []) (h1 : ∀ xs : List AV, headOk n xs = true → xs.length ≤ 268435456 → ∃ k v0 h d, evalF cfgC k g [.list xs true none none] [] = some (v0, h, d) ∧ v0.strip = .L (stripL xs))
    {vs : List AV} {v : AV} (hcl : cleanL 0 vs = true) (hv : cloneA n vs = some v) (hvc : v.clean 0 = true) {m : M} {w : World} {us : Array Value} (hi : Inv m [] w) (hr : VRelL m vs us.toList) :
    Res Try.prog ((callFunc g us).run Try.prog w) (fun u w' => ∃ m', Step w.heap.size m [] w m' [] w' ∧ VRel m' v u) := by
  unfold cloneA at hv
  split at hv
  · rename_i xs nn cap tok
    split at hv
    · rename_i hc
      simp only [Option.some.injEq] at hv
      subst hv
      simp only [cleanL_cons, cleanL_nil, Bool.and_true] at hcl
      have hx : cleanL 0 xs = true := by simp only [AV.clean, Bool.and_eq_true] at hcl; exact hcl.1
      exact res_of_two (C1 := cfgC) cfgC_ok cfgC_bodies mixed hm hvc hx (fun e => by subst e; simpa using h0) (h1 xs hc.1 hc.2) hi hr
    · cases hv
  · cases hv
theorem cfg_prim : PrimSpec cfg := by
  intro g p hp vs v hcl hv hvc m w us hi hr
  by_cases g106 : g = 106
  · subst g106
    have : p = cloneA 2 := by simp [cfg] at hp; exact hp.symm
    subst this
    exact clone_spec (by decide) clone106_nil clone106_list hcl hv hvc hi hr
  by_cases g107 : g = 107
  · subst g107
    have : p = cloneA 1 := by simp [cfg] at hp; exact hp.symm
    subst this
    exact clone_spec (by decide) clone107_nil clone107_list hcl hv hvc hi hr
  by_cases g108 : g = 108
  · subst g108
    have : p = cloneA 2 := by simp [cfg] at hp; exact hp.symm
    subst this
    exact clone_spec (by decide) clone108_nil clone108_list hcl hv hvc hi hr
  simp [cfg, g106, g107, g108] at hp
theorem ins105_cfg : CfgOk (insC Try.prog 105 155 9) where
  prim := primSpec_none fun _ => rfl
  hprim := by
    intro f p hp vs h v h' d he m w us hi hr
    simp only [insC] at hp
    split at hp
    · rename_i hf
      subst hf
      simp only [Option.some.injEq] at hp
      subst hp
      exact overlaps_ok (P := Try.prog) (tS := 58) (tB := 4) (e := 142) (n := 9) Try.underlying58 Ty.s142 insW_over he hi hr
    · cases hp
  body := by
    intro f hm
    have : f = 105 := by
      simp only [insC] at hm
      split at hm
      · assumption
      · exact (hm rfl).elim
    subst this
    exact ⟨Try.f105, _, Try.func105, rfl, by decide⟩
theorem ins105_bodies : BodiesOk (insC Try.prog 105 155 9) := bodiesOk_ins Try.func105 rfl (by kernel_rfl)
theorem cfg_hprim : HPrimSpec cfg := by
  intro g p hp vs h v h' d he m w us hi hr
  by_cases g105 : g = 105
  · subst g105
    have : p = insertA 9 136 := by simp [cfg] at hp; exact hp.symm
    subst this
    exact insert_ok ins105_cfg ins105_bodies mixed insW he hi hr
  simp [cfg, g105] at hp
theorem bodies : BodiesOk cfg := bodiesOk_of fns cfg_in
theorem cfg_ok : CfgOk cfg := cfgOk_of cfg_prim fns cfg_in cfg_hprim
theorem own : ownKnob Try.prog.godebug = none := by kernel_rfl
theorem laid : laidOutB Try.prog = true := by kernel_rfl
def tys : List Nat := [3, 9, 44]
theorem tys_ok : tysOk Try.prog tys = true := by kernel_rfl
theorem int_of {n : Nat} {y : AV} (h : isOf Try.prog (has Try.prog n) 3 y) : ∃ i : Int, y = .int .i64 i ∧ (Lit.int .i64 i).wf = true := by
  rcases h with ⟨h, _⟩ | ⟨_, h⟩
  · simp at h
  cases n with
  | zero => exact h.elim
  | succ n =>
    simp only [has, Try.underlying3] at h
    obtain ⟨s, e, hs⟩ := h
    simp only [List.cons.injEq, and_true] at e
    exact ⟨s, e, hs⟩
theorem str_of {n : Nat} {y : AV} (h : isOf Try.prog (has Try.prog n) 9 y) : ∃ s : S, y = .str s ∧ s.length ≤ maxLen := by
  rcases h with ⟨h, _⟩ | ⟨_, h⟩
  · simp at h
  cases n with
  | zero => exact h.elim
  | succ n =>
    simp only [has, Try.underlying9] at h
    obtain ⟨s, e, hs⟩ := h
    simp only [List.cons.injEq, and_true] at e
    exact ⟨s, e, hs⟩
end Go.Proofs.Ytpfdfilkhaoibaa
