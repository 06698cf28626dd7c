/-
  Parts, one behind the other: Va_0.
-/
import Derived.Test.YtpfdfilkhaoibaaMe
/-
  Lifted functions.
-/
namespace Go.Proofs.Ytpfdfilkhaoibaa
open Go Ev
set_option linter.unusedVariables false
set_option linter.unusedSimpArgs false
set_option maxRecDepth 100000
structure TView_asked where
  f_match : S
  f_count : S
  f_matched : Bool
  f_counted : Bool
def TView_asked.av (x : TView_asked) : AV := .agg [AV.str x.f_match, AV.str x.f_count, AV.bool x.f_matched, AV.bool x.f_counted]
@[simp] theorem TView_asked.av_strip (x : TView_asked) : (TView_asked.av x).strip = TView_asked.av x := by simp [TView_asked.av, stripL_bytes, cleanL_bytes, headOk_bytes]
@[simp] theorem TView_asked.av_clean (n : Nat) (x : TView_asked) : (TView_asked.av x).clean n = true := by simp [TView_asked.av, stripL_bytes, cleanL_bytes, headOk_bytes]
theorem TView_asked.av_cells (x : TView_asked) : (TView_asked.av x).cells.length = 4 := rfl
@[simp] theorem TView_asked.stripL (l : List TView_asked) : stripL (l.map TView_asked.av) = l.map TView_asked.av := stripL_map _ TView_asked.av_strip l
@[simp] theorem TView_asked.cleanL (n : Nat) (l : List TView_asked) : cleanL n (l.map TView_asked.av) = true := cleanL_map n _ (TView_asked.av_clean n) l
@[simp] theorem TView_asked.head (l : List TView_asked) : headOk 4 (l.map TView_asked.av) = true := by cases l <;> rfl
@[simp] theorem TView_asked.allOk (l : List TView_asked) : allOk 4 (l.map TView_asked.av) = true := allOk_map 4 _ TView_asked.av_cells l
structure TView_Page where
  f_From : Int
  f_To : Int
  f_Next : Int
  f_Match : S
def TView_Page.av (x : TView_Page) : AV := .agg [AV.int .i64 x.f_From, AV.int .i64 x.f_To, AV.int .i64 x.f_Next, AV.str x.f_Match]
@[simp] theorem TView_Page.av_strip (x : TView_Page) : (TView_Page.av x).strip = TView_Page.av x := by simp [TView_Page.av, stripL_bytes, cleanL_bytes, headOk_bytes]
@[simp] theorem TView_Page.av_clean (n : Nat) (x : TView_Page) : (TView_Page.av x).clean n = true := by simp [TView_Page.av, stripL_bytes, cleanL_bytes, headOk_bytes]
theorem TView_Page.av_cells (x : TView_Page) : (TView_Page.av x).cells.length = 4 := rfl
@[simp] theorem TView_Page.stripL (l : List TView_Page) : stripL (l.map TView_Page.av) = l.map TView_Page.av := stripL_map _ TView_Page.av_strip l
@[simp] theorem TView_Page.cleanL (n : Nat) (l : List TView_Page) : cleanL n (l.map TView_Page.av) = true := cleanL_map n _ (TView_Page.av_clean n) l
@[simp] theorem TView_Page.head (l : List TView_Page) : headOk 4 (l.map TView_Page.av) = true := by cases l <;> rfl
@[simp] theorem TView_Page.allOk (l : List TView_Page) : allOk 4 (l.map TView_Page.av) = true := allOk_map 4 _ TView_Page.av_cells l
/-- pentimento/view.great -/
def F77 (k : Nat) (a0 : Int) : Option (Int) :=
  (if (decide ((a0 : Int) ≥ 97) && decide ((a0 : Int) ≤ 122)) = true then some (IntKind.wrap .u8 ((IntKind.wrap .u8 (a0 - (97 : Int))) + (65 : Int))) else some a0)
set_option maxHeartbeats 8000000 in
theorem F77_ok {k : Nat} {a0 : Int} {r : Int} (hg : F77 k a0 = some r) : Ret cfg 77 [AV.int .u8 a0] (AV.int .u8 r) := by
  unfold F77 at hg
  refine Ret.of_body rfl rfl Try.func77 rfl (by simp [strs, stripL_bytes, cleanL_bytes, headOk_bytes]) (by simp [strs, stripL_bytes, cleanL_bytes, headOk_bytes]) ?_
  obtain ⟨fr, hfr⟩ : ∃ fr, fr = [AV.int .u8 a0] ++ List.replicate (Try.f77.ntmps - [AV.int .u8 a0].length) AV.undef := ⟨_, rfl⟩
  rw [← hfr]
  have hl : fr.length = 13 := by rw [hfr]; rfl
  have s0 : slotAt fr 0 = some (AV.int .u8 a0) := by rw [hfr]; first | rfl | simp [aR_eq, aR_eq]
  clear hfr
  refine Ev.seq ?_
  refine Ev.region ?_
  apply EvOps.keep (h' := []) (d' := false) (fun fr => fr.length = 13 ∧ slotAt fr 0 = some (AV.int .u8 a0))
  · intro call; simp [hl, s0, ofBytes_length, bytesOf_ofBytes, stripL_bytes, cleanL_bytes, headOk_bytes, strs, minsA, minA, sliceA, buildSliceA, buildA, structPlaces, fillA, splice, bytesOf, aR_eq, aR_eq]; exact rfl
  · exact ⟨by simp [hl], by simp [hl, s0, ofBytes_length, bytesOf_ofBytes, stripL_bytes, cleanL_bytes, headOk_bytes, strs, minsA, minA, sliceA, buildSliceA, buildA, structPlaces, fillA, splice, bytesOf, aR_eq, aR_eq]⟩
  clear hl s0 fr
  rintro fr ⟨hl, s0⟩
  refine Ev.seq ?_
  refine Ev.seq ?_
  refine Ev.region ?_
  refine EvOps.mono (Q := fun st => ∃ fr, st = ⟨fr, [], false⟩ ∧ fr.length = 13 ∧ slotAt fr 0 = some (AV.int .u8 a0) ∧ slotAt fr 8 = some (AV.bool ((decide ((a0 : Int) ≥ 97) && decide ((a0 : Int) ≤ 122))))) ?_ ?_
  · refine EvOps.mid 6 (fun st => ∃ fr, st = ⟨fr, [], false⟩ ∧ fr.length = 13 ∧ slotAt fr 0 = some (AV.int .u8 a0) ∧ slotAt fr 8 = some (AV.bool ((decide ((a0 : Int) ≥ 97) && decide ((a0 : Int) ≤ 122))))) ?_ ?_
    · refine EvOps.take 3 ?_
      apply EvOps.run
      · intro call; simp [hl, s0, ofBytes_length, bytesOf_ofBytes, stripL_bytes, cleanL_bytes, headOk_bytes, strs, minsA, minA, sliceA, buildSliceA, buildA, structPlaces, fillA, splice, bytesOf, aR_eq, aR_eq]; exact rfl
      refine EvOps.gen (fun fr => fr.length = 13 ∧ slotAt fr 0 = some (AV.int .u8 a0) ∧ slotAt fr 5 = some (AV.bool (decide ((a0 : Int) ≥ 97)))) ⟨by simp [hl], by simp [hl, s0, ofBytes_length, bytesOf_ofBytes, stripL_bytes, cleanL_bytes, headOk_bytes, strs, minsA, minA, sliceA, buildSliceA, buildA, structPlaces, fillA, splice, bytesOf, aR_eq, aR_eq], by simp [hl, s0, ofBytes_length, bytesOf_ofBytes, stripL_bytes, cleanL_bytes, headOk_bytes, strs, minsA, minA, sliceA, buildSliceA, buildA, structPlaces, fillA, splice, bytesOf, aR_eq, aR_eq]⟩ ?_
      clear hl s0 fr
      rintro fr ⟨hl, s0, s5⟩
      obtain ⟨w1, hw1⟩ : ∃ b : Bool, b = (decide ((a0 : Int) ≥ 97)) := ⟨_, rfl⟩
      rw [← hw1] at s5
      cases w1 with
      | true =>
        apply EvOps.run
        · intro call; simp [hl, s0, s5, ofBytes_length, bytesOf_ofBytes, stripL_bytes, cleanL_bytes, headOk_bytes, strs, minsA, minA, sliceA, buildSliceA, buildA, structPlaces, fillA, splice, bytesOf, aR_eq, aR_eq]; exact rfl
        exact ⟨_, rfl, by simp [hl], by simp [hl, s0, s5, ofBytes_length, bytesOf_ofBytes, stripL_bytes, cleanL_bytes, headOk_bytes, strs, minsA, minA, sliceA, buildSliceA, buildA, structPlaces, fillA, splice, bytesOf, aR_eq, aR_eq], by first | (simp [hl, s0, s5, ofBytes_length, bytesOf_ofBytes, stripL_bytes, cleanL_bytes, headOk_bytes, strs, minsA, minA, sliceA, buildSliceA, buildA, structPlaces, fillA, splice, bytesOf, aR_eq, aR_eq]; done) | ((try simp only [← hw1]); (first | done | simp [hl, s0, s5, ofBytes_length, bytesOf_ofBytes, stripL_bytes, cleanL_bytes, headOk_bytes, strs, minsA, minA, sliceA, buildSliceA, buildA, structPlaces, fillA, splice, bytesOf, aR_eq, aR_eq]))⟩
      | false =>
        apply EvOps.run
        · intro call; simp [hl, s0, s5, ofBytes_length, bytesOf_ofBytes, stripL_bytes, cleanL_bytes, headOk_bytes, strs, minsA, minA, sliceA, buildSliceA, buildA, structPlaces, fillA, splice, bytesOf, aR_eq, aR_eq]; exact rfl
        exact ⟨_, rfl, by simp [hl], by simp [hl, s0, s5, ofBytes_length, bytesOf_ofBytes, stripL_bytes, cleanL_bytes, headOk_bytes, strs, minsA, minA, sliceA, buildSliceA, buildA, structPlaces, fillA, splice, bytesOf, aR_eq, aR_eq], by first | (simp [hl, s0, s5, ofBytes_length, bytesOf_ofBytes, stripL_bytes, cleanL_bytes, headOk_bytes, strs, minsA, minA, sliceA, buildSliceA, buildA, structPlaces, fillA, splice, bytesOf, aR_eq, aR_eq]; done) | ((try simp only [← hw1]); (first | done | simp [hl, s0, s5, ofBytes_length, bytesOf_ofBytes, stripL_bytes, cleanL_bytes, headOk_bytes, strs, minsA, minA, sliceA, buildSliceA, buildA, structPlaces, fillA, splice, bytesOf, aR_eq, aR_eq]))⟩
    · clear hl s0 fr
      rintro st ⟨fr, rfl, hl, s0, s8⟩
      exact EvOps.done ⟨_, rfl, by simp [hl], by simp [hl, s0, s8, ofBytes_length, bytesOf_ofBytes, stripL_bytes, cleanL_bytes, headOk_bytes, strs, minsA, minA, sliceA, buildSliceA, buildA, structPlaces, fillA, splice, bytesOf, aR_eq, aR_eq], by simp [hl, s0, s8, ofBytes_length, bytesOf_ofBytes, stripL_bytes, cleanL_bytes, headOk_bytes, strs, minsA, minA, sliceA, buildSliceA, buildA, structPlaces, fillA, splice, bytesOf, aR_eq, aR_eq]⟩
  clear hl s0 fr
  rintro st ⟨fr, rfl, hl, s0, s8⟩
  refine Ev.cond ((decide ((a0 : Int) ≥ 97) && decide ((a0 : Int) ≤ 122))) (by simp [hl, s0, s8, ofBytes_length, bytesOf_ofBytes, stripL_bytes, cleanL_bytes, headOk_bytes, strs, minsA, minA, sliceA, buildSliceA, buildA, structPlaces, fillA, splice, bytesOf, aR_eq, aR_eq]) (fun h_2 => ?_) (fun h_2 => ?_)
  · rw [if_pos h_2] at hg
    refine Ev.seq ?_
    refine Ev.region ?_
    apply EvOps.keep (h' := []) (d' := false) (fun fr => fr.length = 13 ∧ slotAt fr 2 = some (AV.int .u8 (IntKind.wrap .u8 ((IntKind.wrap .u8 (a0 - (97 : Int))) + (65 : Int)))))
    · intro call; simp [hl, s0, s8, ofBytes_length, bytesOf_ofBytes, stripL_bytes, cleanL_bytes, headOk_bytes, strs, minsA, minA, sliceA, buildSliceA, buildA, structPlaces, fillA, splice, bytesOf, aR_eq, aR_eq]; exact rfl
    · exact ⟨by simp [hl], by simp [hl, s0, s8, ofBytes_length, bytesOf_ofBytes, stripL_bytes, cleanL_bytes, headOk_bytes, strs, minsA, minA, sliceA, buildSliceA, buildA, structPlaces, fillA, splice, bytesOf, aR_eq, aR_eq]⟩
    clear hl s0 s8 fr
    rintro fr ⟨hl, s2⟩
    refine Ev.ret ?_
    have hs := Option.some.inj hg; subst hs
    exact ⟨AV.int .u8 (IntKind.wrap .u8 ((IntKind.wrap .u8 (a0 - (97 : Int))) + (65 : Int))), by simp [Try.f77, hl, s2, ofBytes_length, bytesOf_ofBytes, stripL_bytes, cleanL_bytes, headOk_bytes, strs, minsA, minA, sliceA, buildSliceA, buildA, structPlaces, fillA, splice, bytesOf, aR_eq, aR_eq] <;> exact rfl, by simp [strs, aR_eq, aR_eq]⟩
  · rw [if_neg (by rw [h_2]; simp)] at hg
    refine Ev.skip ?_
    refine Ev.seq ?_
    refine Ev.region ?_
    apply EvOps.keep (h' := []) (d' := false) (fun fr => fr.length = 13 ∧ slotAt fr 2 = some (AV.int .u8 a0))
    · intro call; simp [hl, s0, s8, ofBytes_length, bytesOf_ofBytes, stripL_bytes, cleanL_bytes, headOk_bytes, strs, minsA, minA, sliceA, buildSliceA, buildA, structPlaces, fillA, splice, bytesOf, aR_eq, aR_eq]; exact rfl
    · exact ⟨by simp [hl], by simp [hl, s0, s8, ofBytes_length, bytesOf_ofBytes, stripL_bytes, cleanL_bytes, headOk_bytes, strs, minsA, minA, sliceA, buildSliceA, buildA, structPlaces, fillA, splice, bytesOf, aR_eq, aR_eq]⟩
    clear hl s0 s8 fr
    rintro fr ⟨hl, s2⟩
    refine Ev.ret ?_
    have hs := Option.some.inj hg; subst hs
    exact ⟨AV.int .u8 a0, by simp [Try.f77, hl, s2, ofBytes_length, bytesOf_ofBytes, stripL_bytes, cleanL_bytes, headOk_bytes, strs, minsA, minA, sliceA, buildSliceA, buildA, structPlaces, fillA, splice, bytesOf, aR_eq, aR_eq] <;> exact rfl, by simp [strs, aR_eq, aR_eq]⟩

/-- pentimento/view.Is -/
def F35_j4 (k : Nat) (v1 : Int) : Option (Sum Int (Sum Unit Int)) :=
  some (Sum.inl (IntKind.wrap .i64 (v1 + (1 : Int))))
def F35_l8_b (k : Nat) (a0 : S) (x6 : S) : Int → Option (Sum Int (Sum Unit Unit)) := fun lv =>
  match lv with | v8 => (if decide ((v8 : Int) < (List.length x6 : Int)) = true then (getAt x6 v8).bind fun c11 => (F77 k ((c11.toNat : Int))).bind fun r12 => (getAt a0 v8).bind fun c13 => (F77 k ((c13.toNat : Int))).bind fun r14 => (if ((r12 : Int) != r14) = true then some (Sum.inr (Sum.inl ())) else some (Sum.inl (IntKind.wrap .i64 (v8 + (1 : Int))))) else some (Sum.inr (Sum.inr ())))
def F35_l8 (k : Nat) (a0 : S) (x6 : S) : Nat → Int → Option (Sum Unit Unit)
  | 0, _ => none
  | m + 1, lv => (F35_l8_b k a0 x6 lv).bind fun s => match s with | .inl lv => F35_l8 k a0 x6 m lv | .inr o => some o
def F35_l1_b (k : Nat) (a0 : S) (a1 : List S) : Int → Option (Sum Int (Sum Unit Int)) := fun lv =>
  match lv with | v1 => (if decide ((v1 : Int) < (List.length a1 : Int)) = true then (getAt a1 v1).bind fun x6 => (if (((List.length x6 : Int) : Int) != (List.length a0 : Int)) = true then F35_j4 k v1 else (F35_l8 k a0 x6 k 0).bind fun o16 => (match o16 with | (Sum.inl ()) => F35_j4 k v1 | (Sum.inr ()) => some (Sum.inr (Sum.inr v1)))) else some (Sum.inr (Sum.inl ())))
def F35_l1 (k : Nat) (a0 : S) (a1 : List S) : Nat → Int → Option (Sum Unit Int)
  | 0, _ => none
  | m + 1, lv => (F35_l1_b k a0 a1 lv).bind fun s => match s with | .inl lv => F35_l1 k a0 a1 m lv | .inr o => some o
def F35 (k : Nat) (a0 : S) (a1 : List S) : Option (Int) :=
  (F35_l1 k a0 a1 k 0).bind fun o17 => (match o17 with | (Sum.inl ()) => some ((-1)) | (Sum.inr v3) => some v3)
set_option maxHeartbeats 8000000 in
theorem F35_ok {k : Nat} {a0 : S} {a1 : List S} {r : Int} (hg : F35 k a0 a1 = some r) : Ret cfg 35 [AV.str a0, AV.L (a1.map AV.str)] (AV.int .i64 r) := by
  unfold F35 at hg
  refine Ret.of_body rfl rfl Try.func35 rfl (by simp [strs, stripL_bytes, cleanL_bytes, headOk_bytes]) (by simp [strs, stripL_bytes, cleanL_bytes, headOk_bytes]) ?_
  obtain ⟨fr, hfr⟩ : ∃ fr, fr = [AV.str a0, AV.L (a1.map AV.str)] ++ List.replicate (Try.f35.ntmps - [AV.str a0, AV.L (a1.map AV.str)].length) AV.undef := ⟨_, rfl⟩
  rw [← hfr]
  have hl : fr.length = 37 := by rw [hfr]; rfl
  have s0 : slotAt fr 0 = some (AV.str a0) := by rw [hfr]; first | rfl | simp [aR_eq, aR_eq]
  have s1 : slotAt fr 1 = some (.list (a1.map AV.str) false none none) := by rw [hfr]; first | rfl | simp [aR_eq, aR_eq]
  clear hfr
  refine Ev.seq ?_
  refine Ev.region ?_
  apply EvOps.keep (h' := []) (d' := false) (fun fr => fr.length = 37 ∧ slotAt fr 0 = some (AV.str a0) ∧ slotAt fr 1 = some (.list (a1.map AV.str) false none none))
  · intro call; simp [hl, s0, s1, ofBytes_length, bytesOf_ofBytes, stripL_bytes, cleanL_bytes, headOk_bytes, strs, minsA, minA, sliceA, buildSliceA, buildA, structPlaces, fillA, splice, bytesOf, aR_eq, aR_eq]; exact rfl
  · exact ⟨by simp [hl], by simp [hl, s0, s1, ofBytes_length, bytesOf_ofBytes, stripL_bytes, cleanL_bytes, headOk_bytes, strs, minsA, minA, sliceA, buildSliceA, buildA, structPlaces, fillA, splice, bytesOf, aR_eq, aR_eq], by simp [hl, s0, s1, ofBytes_length, bytesOf_ofBytes, stripL_bytes, cleanL_bytes, headOk_bytes, strs, minsA, minA, sliceA, buildSliceA, buildA, structPlaces, fillA, splice, bytesOf, aR_eq, aR_eq]⟩
  clear hl s0 s1 fr
  rintro fr ⟨hl, s0, s1⟩
  refine Ev.scope ?_
  refine Ev.seq ?_
  refine Ev.label ?_
  refine Ev.seq ?_
  refine Ev.seq ?_
  refine Ev.region ?_
  apply EvOps.keep (h' := []) (d' := false) (fun fr => fr.length = 37 ∧ slotAt fr 0 = some (AV.str a0) ∧ slotAt fr 8 = some (.list (a1.map AV.str) false none none) ∧ slotAt fr 9 = some (AV.int .i64 ((List.length a1 : Int))) ∧ slotAt fr 10 = some (AV.int .i64 0))
  · intro call; simp [hl, s0, s1, ofBytes_length, bytesOf_ofBytes, stripL_bytes, cleanL_bytes, headOk_bytes, strs, minsA, minA, sliceA, buildSliceA, buildA, structPlaces, fillA, splice, bytesOf, aR_eq, aR_eq]; exact rfl
  · exact ⟨by simp [hl], by simp [hl, s0, s1, ofBytes_length, bytesOf_ofBytes, stripL_bytes, cleanL_bytes, headOk_bytes, strs, minsA, minA, sliceA, buildSliceA, buildA, structPlaces, fillA, splice, bytesOf, aR_eq, aR_eq], by simp [hl, s0, s1, ofBytes_length, bytesOf_ofBytes, stripL_bytes, cleanL_bytes, headOk_bytes, strs, minsA, minA, sliceA, buildSliceA, buildA, structPlaces, fillA, splice, bytesOf, aR_eq, aR_eq], by simp [hl, s0, s1, ofBytes_length, bytesOf_ofBytes, stripL_bytes, cleanL_bytes, headOk_bytes, strs, minsA, minA, sliceA, buildSliceA, buildA, structPlaces, fillA, splice, bytesOf, aR_eq, aR_eq], by simp [hl, s0, s1, ofBytes_length, bytesOf_ofBytes, stripL_bytes, cleanL_bytes, headOk_bytes, strs, minsA, minA, sliceA, buildSliceA, buildA, structPlaces, fillA, splice, bytesOf, aR_eq, aR_eq]⟩
  clear hl s0 s1 fr
  rintro fr ⟨hl, s0, s8, s9, s10⟩
  refine Ev.block ?_
  obtain ⟨o17, eo17, hg⟩ := bind_some hg
  refine Ev.loopJ (fun x st => (x = .exit 0 ∧ ∃ (fr : List AV) , st = ⟨fr, [], false⟩ ∧ fr.length = 37 ∧ o17 = (Sum.inl ())) ∨ (x = .ret ∧ ∃ (fr : List AV) (v3 : Int), st = ⟨fr, [], false⟩ ∧ fr.length = 37 ∧ slotAt fr 4 = some (AV.int .i64 v3) ∧ o17 = (Sum.inr v3))) (fun m st => ∃ (fr : List AV) (v1 : Int), st = ⟨fr, [], false⟩ ∧ fr.length = 37 ∧ slotAt fr 0 = some (AV.str a0) ∧ slotAt fr 8 = some (.list (a1.map AV.str) false none none) ∧ slotAt fr 9 = some (AV.int .i64 ((List.length a1 : Int))) ∧ slotAt fr 10 = some (AV.int .i64 v1) ∧ F35_l1 k a0 a1 m v1 = some o17) k _ ?_ ?_ ?_
  · exact ⟨_, 0, rfl, hl, by simp [hl, s0, s8, s9, s10, ofBytes_length, bytesOf_ofBytes, stripL_bytes, cleanL_bytes, headOk_bytes, strs, minsA, minA, sliceA, buildSliceA, buildA, structPlaces, fillA, splice, bytesOf, aR_eq, aR_eq], by simp [hl, s0, s8, s9, s10, ofBytes_length, bytesOf_ofBytes, stripL_bytes, cleanL_bytes, headOk_bytes, strs, minsA, minA, sliceA, buildSliceA, buildA, structPlaces, fillA, splice, bytesOf, aR_eq, aR_eq], by simp [hl, s0, s8, s9, s10, ofBytes_length, bytesOf_ofBytes, stripL_bytes, cleanL_bytes, headOk_bytes, strs, minsA, minA, sliceA, buildSliceA, buildA, structPlaces, fillA, splice, bytesOf, aR_eq, aR_eq], by simp [hl, s0, s8, s9, s10, ofBytes_length, bytesOf_ofBytes, stripL_bytes, cleanL_bytes, headOk_bytes, strs, minsA, minA, sliceA, buildSliceA, buildA, structPlaces, fillA, splice, bytesOf, aR_eq, aR_eq], eo17⟩
  · clear hg eo17 hl s0 s8 s9 s10 fr
    rintro m st ⟨fr, v1, rfl, hl, s0, s8, s9, s10, hg⟩
    cases m with
    | zero => simp [F35_l1] at hg
    | succ m =>
    rw [F35_l1] at hg
    obtain ⟨s, hb, hstep⟩ := bind_some hg
    clear hg
    have hg := hb; clear hb
    unfold F35_l1_b at hg
    try dsimp only at hg
    refine Ev.seq ?_
    refine Ev.region ?_
    apply EvOps.keep (h' := []) (d' := false) (fun fr => fr.length = 37 ∧ slotAt fr 0 = some (AV.str a0) ∧ slotAt fr 8 = some (.list (a1.map AV.str) false none none) ∧ slotAt fr 9 = some (AV.int .i64 ((List.length a1 : Int))) ∧ slotAt fr 10 = some (AV.int .i64 v1) ∧ slotAt fr 11 = some (AV.bool (decide ((v1 : Int) < (List.length a1 : Int)))))
    · intro call; simp [hl, s0, s8, s9, s10, ofBytes_length, bytesOf_ofBytes, stripL_bytes, cleanL_bytes, headOk_bytes, strs, minsA, minA, sliceA, buildSliceA, buildA, structPlaces, fillA, splice, bytesOf, aR_eq, aR_eq]; exact rfl
    · exact ⟨by simp [hl], by simp [hl, s0, s8, s9, s10, ofBytes_length, bytesOf_ofBytes, stripL_bytes, cleanL_bytes, headOk_bytes, strs, minsA, minA, sliceA, buildSliceA, buildA, structPlaces, fillA, splice, bytesOf, aR_eq, aR_eq], by simp [hl, s0, s8, s9, s10, ofBytes_length, bytesOf_ofBytes, stripL_bytes, cleanL_bytes, headOk_bytes, strs, minsA, minA, sliceA, buildSliceA, buildA, structPlaces, fillA, splice, bytesOf, aR_eq, aR_eq], by simp [hl, s0, s8, s9, s10, ofBytes_length, bytesOf_ofBytes, stripL_bytes, cleanL_bytes, headOk_bytes, strs, minsA, minA, sliceA, buildSliceA, buildA, structPlaces, fillA, splice, bytesOf, aR_eq, aR_eq], by simp [hl, s0, s8, s9, s10, ofBytes_length, bytesOf_ofBytes, stripL_bytes, cleanL_bytes, headOk_bytes, strs, minsA, minA, sliceA, buildSliceA, buildA, structPlaces, fillA, splice, bytesOf, aR_eq, aR_eq], by simp [hl, s0, s8, s9, s10, ofBytes_length, bytesOf_ofBytes, stripL_bytes, cleanL_bytes, headOk_bytes, strs, minsA, minA, sliceA, buildSliceA, buildA, structPlaces, fillA, splice, bytesOf, aR_eq, aR_eq]⟩
    clear hl s0 s8 s9 s10 fr
    rintro fr ⟨hl, s0, s8, s9, s10, s11⟩
    refine Ev.seq ?_
    refine Ev.cond (decide ((v1 : Int) < (List.length a1 : Int))) (by simp [hl, s0, s8, s9, s10, s11, ofBytes_length, bytesOf_ofBytes, stripL_bytes, cleanL_bytes, headOk_bytes, strs, minsA, minA, sliceA, buildSliceA, buildA, structPlaces, fillA, splice, bytesOf, aR_eq, aR_eq]) (fun h_4 => ?_) (fun h_4 => ?_)
    · rw [if_pos h_4] at hg
      refine Ev.skip ?_
      refine Ev.mid (fun st => ∃ (fr : List AV) , st = ⟨fr, [], false⟩ ∧ fr.length = 37 ∧ slotAt fr 0 = some (AV.str a0) ∧ slotAt fr 8 = some (.list (a1.map AV.str) false none none) ∧ slotAt fr 9 = some (AV.int .i64 ((List.length a1 : Int))) ∧ slotAt fr 10 = some (AV.int .i64 v1) ∧ F35_j4 k v1 = some s) ?_ ?_
      · refine Ev.block ?_
        refine Ev.seq ?_
        refine Ev.region ?_
        obtain ⟨x6, ex6, hg⟩ := bind_some hg
        obtain ⟨ex6a, ex6b, ex6c, ex6d⟩ := getAt_some ex6
        have yex6b := ex6b
        try simp at yex6b
        have yex6d := ex6d
        try simp at yex6d
        apply EvOps.keep (h' := []) (d' := false) (fun fr => fr.length = 37 ∧ slotAt fr 0 = some (AV.str a0) ∧ slotAt fr 5 = some (AV.int .i64 v1) ∧ slotAt fr 6 = some (AV.str x6) ∧ slotAt fr 8 = some (.list (a1.map AV.str) false none none) ∧ slotAt fr 9 = some (AV.int .i64 ((List.length a1 : Int))) ∧ slotAt fr 10 = some (AV.int .i64 v1))
        · intro call; simp [hl, s0, s8, s9, s10, s11, ex6a, ex6b, ex6c, ex6d, yex6b, yex6d, ofBytes_length, bytesOf_ofBytes, stripL_bytes, cleanL_bytes, headOk_bytes, strs, minsA, minA, sliceA, buildSliceA, buildA, structPlaces, fillA, splice, bytesOf, aR_eq, aR_eq]; exact rfl
        · exact ⟨by simp [hl], by simp [hl, s0, s8, s9, s10, s11, ex6a, ex6b, ex6c, ex6d, yex6b, yex6d, ofBytes_length, bytesOf_ofBytes, stripL_bytes, cleanL_bytes, headOk_bytes, strs, minsA, minA, sliceA, buildSliceA, buildA, structPlaces, fillA, splice, bytesOf, aR_eq, aR_eq], by simp [hl, s0, s8, s9, s10, s11, ex6a, ex6b, ex6c, ex6d, yex6b, yex6d, ofBytes_length, bytesOf_ofBytes, stripL_bytes, cleanL_bytes, headOk_bytes, strs, minsA, minA, sliceA, buildSliceA, buildA, structPlaces, fillA, splice, bytesOf, aR_eq, aR_eq], by simp [hl, s0, s8, s9, s10, s11, ex6a, ex6b, ex6c, ex6d, yex6b, yex6d, ofBytes_length, bytesOf_ofBytes, stripL_bytes, cleanL_bytes, headOk_bytes, strs, minsA, minA, sliceA, buildSliceA, buildA, structPlaces, fillA, splice, bytesOf, aR_eq, aR_eq], by simp [hl, s0, s8, s9, s10, s11, ex6a, ex6b, ex6c, ex6d, yex6b, yex6d, ofBytes_length, bytesOf_ofBytes, stripL_bytes, cleanL_bytes, headOk_bytes, strs, minsA, minA, sliceA, buildSliceA, buildA, structPlaces, fillA, splice, bytesOf, aR_eq, aR_eq], by simp [hl, s0, s8, s9, s10, s11, ex6a, ex6b, ex6c, ex6d, yex6b, yex6d, ofBytes_length, bytesOf_ofBytes, stripL_bytes, cleanL_bytes, headOk_bytes, strs, minsA, minA, sliceA, buildSliceA, buildA, structPlaces, fillA, splice, bytesOf, aR_eq, aR_eq], by simp [hl, s0, s8, s9, s10, s11, ex6a, ex6b, ex6c, ex6d, yex6b, yex6d, ofBytes_length, bytesOf_ofBytes, stripL_bytes, cleanL_bytes, headOk_bytes, strs, minsA, minA, sliceA, buildSliceA, buildA, structPlaces, fillA, splice, bytesOf, aR_eq, aR_eq]⟩
        clear hl s0 s8 s9 s10 s11 fr
        rintro fr ⟨hl, s0, s5, s6, s8, s9, s10⟩
        refine Ev.seq ?_
        refine Ev.seq ?_
        refine Ev.region ?_
        apply EvOps.keep (h' := []) (d' := false) (fun fr => fr.length = 37 ∧ slotAt fr 0 = some (AV.str a0) ∧ slotAt fr 5 = some (AV.int .i64 v1) ∧ slotAt fr 6 = some (AV.str x6) ∧ slotAt fr 8 = some (.list (a1.map AV.str) false none none) ∧ slotAt fr 9 = some (AV.int .i64 ((List.length a1 : Int))) ∧ slotAt fr 10 = some (AV.int .i64 v1) ∧ slotAt fr 19 = some (AV.bool ((((List.length x6 : Int) : Int) != (List.length a0 : Int)))))
        · intro call; simp [hl, s0, s5, s6, s8, s9, s10, ofBytes_length, bytesOf_ofBytes, stripL_bytes, cleanL_bytes, headOk_bytes, strs, minsA, minA, sliceA, buildSliceA, buildA, structPlaces, fillA, splice, bytesOf, aR_eq, aR_eq]; exact rfl
        · exact ⟨by simp [hl], by simp [hl, s0, s5, s6, s8, s9, s10, ofBytes_length, bytesOf_ofBytes, stripL_bytes, cleanL_bytes, headOk_bytes, strs, minsA, minA, sliceA, buildSliceA, buildA, structPlaces, fillA, splice, bytesOf, aR_eq, aR_eq], by simp [hl, s0, s5, s6, s8, s9, s10, ofBytes_length, bytesOf_ofBytes, stripL_bytes, cleanL_bytes, headOk_bytes, strs, minsA, minA, sliceA, buildSliceA, buildA, structPlaces, fillA, splice, bytesOf, aR_eq, aR_eq], by simp [hl, s0, s5, s6, s8, s9, s10, ofBytes_length, bytesOf_ofBytes, stripL_bytes, cleanL_bytes, headOk_bytes, strs, minsA, minA, sliceA, buildSliceA, buildA, structPlaces, fillA, splice, bytesOf, aR_eq, aR_eq], by simp [hl, s0, s5, s6, s8, s9, s10, ofBytes_length, bytesOf_ofBytes, stripL_bytes, cleanL_bytes, headOk_bytes, strs, minsA, minA, sliceA, buildSliceA, buildA, structPlaces, fillA, splice, bytesOf, aR_eq, aR_eq], by simp [hl, s0, s5, s6, s8, s9, s10, ofBytes_length, bytesOf_ofBytes, stripL_bytes, cleanL_bytes, headOk_bytes, strs, minsA, minA, sliceA, buildSliceA, buildA, structPlaces, fillA, splice, bytesOf, aR_eq, aR_eq], by simp [hl, s0, s5, s6, s8, s9, s10, ofBytes_length, bytesOf_ofBytes, stripL_bytes, cleanL_bytes, headOk_bytes, strs, minsA, minA, sliceA, buildSliceA, buildA, structPlaces, fillA, splice, bytesOf, aR_eq, aR_eq], by simp [hl, s0, s5, s6, s8, s9, s10, ofBytes_length, bytesOf_ofBytes, stripL_bytes, cleanL_bytes, headOk_bytes, strs, minsA, minA, sliceA, buildSliceA, buildA, structPlaces, fillA, splice, bytesOf, aR_eq, aR_eq]⟩
        clear hl s0 s5 s6 s8 s9 s10 fr
        rintro fr ⟨hl, s0, s5, s6, s8, s9, s10, s19⟩
        refine Ev.cond ((((List.length x6 : Int) : Int) != (List.length a0 : Int))) (by simp [hl, s0, s5, s6, s8, s9, s10, s19, ofBytes_length, bytesOf_ofBytes, stripL_bytes, cleanL_bytes, headOk_bytes, strs, minsA, minA, sliceA, buildSliceA, buildA, structPlaces, fillA, splice, bytesOf, aR_eq, aR_eq]) (fun h_7 => ?_) (fun h_7 => ?_)
        · rw [if_pos h_7] at hg
          refine Ev.exit ?_
          exact ⟨_, rfl, hl, by simp [hl, s0, s5, s6, s8, s9, s10, s19, ofBytes_length, bytesOf_ofBytes, stripL_bytes, cleanL_bytes, headOk_bytes, strs, minsA, minA, sliceA, buildSliceA, buildA, structPlaces, fillA, splice, bytesOf, aR_eq, aR_eq], by simp [hl, s0, s5, s6, s8, s9, s10, s19, ofBytes_length, bytesOf_ofBytes, stripL_bytes, cleanL_bytes, headOk_bytes, strs, minsA, minA, sliceA, buildSliceA, buildA, structPlaces, fillA, splice, bytesOf, aR_eq, aR_eq], by simp [hl, s0, s5, s6, s8, s9, s10, s19, ofBytes_length, bytesOf_ofBytes, stripL_bytes, cleanL_bytes, headOk_bytes, strs, minsA, minA, sliceA, buildSliceA, buildA, structPlaces, fillA, splice, bytesOf, aR_eq, aR_eq], by simp [hl, s0, s5, s6, s8, s9, s10, s19, ofBytes_length, bytesOf_ofBytes, stripL_bytes, cleanL_bytes, headOk_bytes, strs, minsA, minA, sliceA, buildSliceA, buildA, structPlaces, fillA, splice, bytesOf, aR_eq, aR_eq], hg⟩
        · rw [if_neg (by rw [h_7]; simp)] at hg
          refine Ev.skip ?_
          refine Ev.seq ?_
          refine Ev.seq ?_
          refine Ev.region ?_
          apply EvOps.keep (h' := []) (d' := false) (fun fr => fr.length = 37 ∧ slotAt fr 0 = some (AV.str a0) ∧ slotAt fr 5 = some (AV.int .i64 v1) ∧ slotAt fr 6 = some (AV.str x6) ∧ slotAt fr 8 = some (.list (a1.map AV.str) false none none) ∧ slotAt fr 9 = some (AV.int .i64 ((List.length a1 : Int))) ∧ slotAt fr 10 = some (AV.int .i64 v1) ∧ slotAt fr 21 = some (AV.int .i64 ((List.length x6 : Int))) ∧ slotAt fr 22 = some (AV.int .i64 0))
          · intro call; simp [hl, s0, s5, s6, s8, s9, s10, s19, ofBytes_length, bytesOf_ofBytes, stripL_bytes, cleanL_bytes, headOk_bytes, strs, minsA, minA, sliceA, buildSliceA, buildA, structPlaces, fillA, splice, bytesOf, aR_eq, aR_eq]; exact rfl
          · exact ⟨by simp [hl], by simp [hl, s0, s5, s6, s8, s9, s10, s19, ofBytes_length, bytesOf_ofBytes, stripL_bytes, cleanL_bytes, headOk_bytes, strs, minsA, minA, sliceA, buildSliceA, buildA, structPlaces, fillA, splice, bytesOf, aR_eq, aR_eq], by simp [hl, s0, s5, s6, s8, s9, s10, s19, ofBytes_length, bytesOf_ofBytes, stripL_bytes, cleanL_bytes, headOk_bytes, strs, minsA, minA, sliceA, buildSliceA, buildA, structPlaces, fillA, splice, bytesOf, aR_eq, aR_eq], by simp [hl, s0, s5, s6, s8, s9, s10, s19, ofBytes_length, bytesOf_ofBytes, stripL_bytes, cleanL_bytes, headOk_bytes, strs, minsA, minA, sliceA, buildSliceA, buildA, structPlaces, fillA, splice, bytesOf, aR_eq, aR_eq], by simp [hl, s0, s5, s6, s8, s9, s10, s19, ofBytes_length, bytesOf_ofBytes, stripL_bytes, cleanL_bytes, headOk_bytes, strs, minsA, minA, sliceA, buildSliceA, buildA, structPlaces, fillA, splice, bytesOf, aR_eq, aR_eq], by simp [hl, s0, s5, s6, s8, s9, s10, s19, ofBytes_length, bytesOf_ofBytes, stripL_bytes, cleanL_bytes, headOk_bytes, strs, minsA, minA, sliceA, buildSliceA, buildA, structPlaces, fillA, splice, bytesOf, aR_eq, aR_eq], by simp [hl, s0, s5, s6, s8, s9, s10, s19, ofBytes_length, bytesOf_ofBytes, stripL_bytes, cleanL_bytes, headOk_bytes, strs, minsA, minA, sliceA, buildSliceA, buildA, structPlaces, fillA, splice, bytesOf, aR_eq, aR_eq], by simp [hl, s0, s5, s6, s8, s9, s10, s19, ofBytes_length, bytesOf_ofBytes, stripL_bytes, cleanL_bytes, headOk_bytes, strs, minsA, minA, sliceA, buildSliceA, buildA, structPlaces, fillA, splice, bytesOf, aR_eq, aR_eq], by simp [hl, s0, s5, s6, s8, s9, s10, s19, ofBytes_length, bytesOf_ofBytes, stripL_bytes, cleanL_bytes, headOk_bytes, strs, minsA, minA, sliceA, buildSliceA, buildA, structPlaces, fillA, splice, bytesOf, aR_eq, aR_eq]⟩
          clear hl s0 s5 s6 s8 s9 s10 s19 fr
          rintro fr ⟨hl, s0, s5, s6, s8, s9, s10, s21, s22⟩
          refine Ev.block ?_
          obtain ⟨o16, eo16, hg⟩ := bind_some hg
          refine Ev.loopJ (fun x st => (x = .exit 1 ∧ ∃ (fr : List AV) , st = ⟨fr, [], false⟩ ∧ fr.length = 37 ∧ slotAt fr 0 = some (AV.str a0) ∧ slotAt fr 8 = some (.list (a1.map AV.str) false none none) ∧ slotAt fr 9 = some (AV.int .i64 ((List.length a1 : Int))) ∧ slotAt fr 10 = some (AV.int .i64 v1) ∧ o16 = (Sum.inl ())) ∨ (x = .exit 2 ∧ ∃ (fr : List AV) , st = ⟨fr, [], false⟩ ∧ fr.length = 37 ∧ slotAt fr 5 = some (AV.int .i64 v1) ∧ o16 = (Sum.inr ()))) (fun m st => ∃ (fr : List AV) (v8 : Int), st = ⟨fr, [], false⟩ ∧ fr.length = 37 ∧ slotAt fr 0 = some (AV.str a0) ∧ slotAt fr 5 = some (AV.int .i64 v1) ∧ slotAt fr 6 = some (AV.str x6) ∧ slotAt fr 8 = some (.list (a1.map AV.str) false none none) ∧ slotAt fr 9 = some (AV.int .i64 ((List.length a1 : Int))) ∧ slotAt fr 10 = some (AV.int .i64 v1) ∧ slotAt fr 21 = some (AV.int .i64 ((List.length x6 : Int))) ∧ slotAt fr 22 = some (AV.int .i64 v8) ∧ F35_l8 k a0 x6 m v8 = some o16) k _ ?_ ?_ ?_
          · exact ⟨_, 0, rfl, hl, by simp [hl, s0, s5, s6, s8, s9, s10, s21, s22, ofBytes_length, bytesOf_ofBytes, stripL_bytes, cleanL_bytes, headOk_bytes, strs, minsA, minA, sliceA, buildSliceA, buildA, structPlaces, fillA, splice, bytesOf, aR_eq, aR_eq], by simp [hl, s0, s5, s6, s8, s9, s10, s21, s22, ofBytes_length, bytesOf_ofBytes, stripL_bytes, cleanL_bytes, headOk_bytes, strs, minsA, minA, sliceA, buildSliceA, buildA, structPlaces, fillA, splice, bytesOf, aR_eq, aR_eq], by simp [hl, s0, s5, s6, s8, s9, s10, s21, s22, ofBytes_length, bytesOf_ofBytes, stripL_bytes, cleanL_bytes, headOk_bytes, strs, minsA, minA, sliceA, buildSliceA, buildA, structPlaces, fillA, splice, bytesOf, aR_eq, aR_eq], by simp [hl, s0, s5, s6, s8, s9, s10, s21, s22, ofBytes_length, bytesOf_ofBytes, stripL_bytes, cleanL_bytes, headOk_bytes, strs, minsA, minA, sliceA, buildSliceA, buildA, structPlaces, fillA, splice, bytesOf, aR_eq, aR_eq], by simp [hl, s0, s5, s6, s8, s9, s10, s21, s22, ofBytes_length, bytesOf_ofBytes, stripL_bytes, cleanL_bytes, headOk_bytes, strs, minsA, minA, sliceA, buildSliceA, buildA, structPlaces, fillA, splice, bytesOf, aR_eq, aR_eq], by simp [hl, s0, s5, s6, s8, s9, s10, s21, s22, ofBytes_length, bytesOf_ofBytes, stripL_bytes, cleanL_bytes, headOk_bytes, strs, minsA, minA, sliceA, buildSliceA, buildA, structPlaces, fillA, splice, bytesOf, aR_eq, aR_eq], by simp [hl, s0, s5, s6, s8, s9, s10, s21, s22, ofBytes_length, bytesOf_ofBytes, stripL_bytes, cleanL_bytes, headOk_bytes, strs, minsA, minA, sliceA, buildSliceA, buildA, structPlaces, fillA, splice, bytesOf, aR_eq, aR_eq], by simp [hl, s0, s5, s6, s8, s9, s10, s21, s22, ofBytes_length, bytesOf_ofBytes, stripL_bytes, cleanL_bytes, headOk_bytes, strs, minsA, minA, sliceA, buildSliceA, buildA, structPlaces, fillA, splice, bytesOf, aR_eq, aR_eq], eo16⟩
          · clear hg eo16 hl s0 s5 s6 s8 s9 s10 s21 s22 fr
            rintro m st ⟨fr, v8, rfl, hl, s0, s5, s6, s8, s9, s10, s21, s22, hg⟩
            cases m with
            | zero => simp [F35_l8] at hg
            | succ m =>
            rw [F35_l8] at hg
            obtain ⟨s, hb, hstep⟩ := bind_some hg
            clear hg
            have hg := hb; clear hb
            unfold F35_l8_b at hg
            try dsimp only at hg
            refine Ev.seq ?_
            refine Ev.region ?_
            apply EvOps.keep (h' := []) (d' := false) (fun fr => fr.length = 37 ∧ slotAt fr 0 = some (AV.str a0) ∧ slotAt fr 5 = some (AV.int .i64 v1) ∧ slotAt fr 6 = some (AV.str x6) ∧ slotAt fr 8 = some (.list (a1.map AV.str) false none none) ∧ slotAt fr 9 = some (AV.int .i64 ((List.length a1 : Int))) ∧ slotAt fr 10 = some (AV.int .i64 v1) ∧ slotAt fr 21 = some (AV.int .i64 ((List.length x6 : Int))) ∧ slotAt fr 22 = some (AV.int .i64 v8) ∧ slotAt fr 23 = some (AV.bool (decide ((v8 : Int) < (List.length x6 : Int)))))
            · intro call; simp [hl, s0, s5, s6, s8, s9, s10, s21, s22, ofBytes_length, bytesOf_ofBytes, stripL_bytes, cleanL_bytes, headOk_bytes, strs, minsA, minA, sliceA, buildSliceA, buildA, structPlaces, fillA, splice, bytesOf, aR_eq, aR_eq]; exact rfl
            · exact ⟨by simp [hl], by simp [hl, s0, s5, s6, s8, s9, s10, s21, s22, ofBytes_length, bytesOf_ofBytes, stripL_bytes, cleanL_bytes, headOk_bytes, strs, minsA, minA, sliceA, buildSliceA, buildA, structPlaces, fillA, splice, bytesOf, aR_eq, aR_eq], by simp [hl, s0, s5, s6, s8, s9, s10, s21, s22, ofBytes_length, bytesOf_ofBytes, stripL_bytes, cleanL_bytes, headOk_bytes, strs, minsA, minA, sliceA, buildSliceA, buildA, structPlaces, fillA, splice, bytesOf, aR_eq, aR_eq], by simp [hl, s0, s5, s6, s8, s9, s10, s21, s22, ofBytes_length, bytesOf_ofBytes, stripL_bytes, cleanL_bytes, headOk_bytes, strs, minsA, minA, sliceA, buildSliceA, buildA, structPlaces, fillA, splice, bytesOf, aR_eq, aR_eq], by simp [hl, s0, s5, s6, s8, s9, s10, s21, s22, ofBytes_length, bytesOf_ofBytes, stripL_bytes, cleanL_bytes, headOk_bytes, strs, minsA, minA, sliceA, buildSliceA, buildA, structPlaces, fillA, splice, bytesOf, aR_eq, aR_eq], by simp [hl, s0, s5, s6, s8, s9, s10, s21, s22, ofBytes_length, bytesOf_ofBytes, stripL_bytes, cleanL_bytes, headOk_bytes, strs, minsA, minA, sliceA, buildSliceA, buildA, structPlaces, fillA, splice, bytesOf, aR_eq, aR_eq], by simp [hl, s0, s5, s6, s8, s9, s10, s21, s22, ofBytes_length, bytesOf_ofBytes, stripL_bytes, cleanL_bytes, headOk_bytes, strs, minsA, minA, sliceA, buildSliceA, buildA, structPlaces, fillA, splice, bytesOf, aR_eq, aR_eq], by simp [hl, s0, s5, s6, s8, s9, s10, s21, s22, ofBytes_length, bytesOf_ofBytes, stripL_bytes, cleanL_bytes, headOk_bytes, strs, minsA, minA, sliceA, buildSliceA, buildA, structPlaces, fillA, splice, bytesOf, aR_eq, aR_eq], by simp [hl, s0, s5, s6, s8, s9, s10, s21, s22, ofBytes_length, bytesOf_ofBytes, stripL_bytes, cleanL_bytes, headOk_bytes, strs, minsA, minA, sliceA, buildSliceA, buildA, structPlaces, fillA, splice, bytesOf, aR_eq, aR_eq], by simp [hl, s0, s5, s6, s8, s9, s10, s21, s22, ofBytes_length, bytesOf_ofBytes, stripL_bytes, cleanL_bytes, headOk_bytes, strs, minsA, minA, sliceA, buildSliceA, buildA, structPlaces, fillA, splice, bytesOf, aR_eq, aR_eq]⟩
            clear hl s0 s5 s6 s8 s9 s10 s21 s22 fr
            rintro fr ⟨hl, s0, s5, s6, s8, s9, s10, s21, s22, s23⟩
            refine Ev.seq ?_
            refine Ev.cond (decide ((v8 : Int) < (List.length x6 : Int))) (by simp [hl, s0, s5, s6, s8, s9, s10, s21, s22, s23, ofBytes_length, bytesOf_ofBytes, stripL_bytes, cleanL_bytes, headOk_bytes, strs, minsA, minA, sliceA, buildSliceA, buildA, structPlaces, fillA, splice, bytesOf, aR_eq, aR_eq]) (fun h_10 => ?_) (fun h_10 => ?_)
            · rw [if_pos h_10] at hg
              refine Ev.skip ?_
              refine Ev.seq ?_
              refine Ev.block ?_
              refine Ev.seq ?_
              refine Ev.region ?_
              apply EvOps.keep (h' := []) (d' := false) (fun fr => fr.length = 37 ∧ slotAt fr 0 = some (AV.str a0) ∧ slotAt fr 5 = some (AV.int .i64 v1) ∧ slotAt fr 6 = some (AV.str x6) ∧ slotAt fr 7 = some (AV.int .i64 v8) ∧ slotAt fr 8 = some (.list (a1.map AV.str) false none none) ∧ slotAt fr 9 = some (AV.int .i64 ((List.length a1 : Int))) ∧ slotAt fr 10 = some (AV.int .i64 v1) ∧ slotAt fr 21 = some (AV.int .i64 ((List.length x6 : Int))) ∧ slotAt fr 22 = some (AV.int .i64 v8))
              · intro call; simp [hl, s0, s5, s6, s8, s9, s10, s21, s22, s23, ofBytes_length, bytesOf_ofBytes, stripL_bytes, cleanL_bytes, headOk_bytes, strs, minsA, minA, sliceA, buildSliceA, buildA, structPlaces, fillA, splice, bytesOf, aR_eq, aR_eq]; exact rfl
              · exact ⟨by simp [hl], by simp [hl, s0, s5, s6, s8, s9, s10, s21, s22, s23, ofBytes_length, bytesOf_ofBytes, stripL_bytes, cleanL_bytes, headOk_bytes, strs, minsA, minA, sliceA, buildSliceA, buildA, structPlaces, fillA, splice, bytesOf, aR_eq, aR_eq], by simp [hl, s0, s5, s6, s8, s9, s10, s21, s22, s23, ofBytes_length, bytesOf_ofBytes, stripL_bytes, cleanL_bytes, headOk_bytes, strs, minsA, minA, sliceA, buildSliceA, buildA, structPlaces, fillA, splice, bytesOf, aR_eq, aR_eq], by simp [hl, s0, s5, s6, s8, s9, s10, s21, s22, s23, ofBytes_length, bytesOf_ofBytes, stripL_bytes, cleanL_bytes, headOk_bytes, strs, minsA, minA, sliceA, buildSliceA, buildA, structPlaces, fillA, splice, bytesOf, aR_eq, aR_eq], by simp [hl, s0, s5, s6, s8, s9, s10, s21, s22, s23, ofBytes_length, bytesOf_ofBytes, stripL_bytes, cleanL_bytes, headOk_bytes, strs, minsA, minA, sliceA, buildSliceA, buildA, structPlaces, fillA, splice, bytesOf, aR_eq, aR_eq], by simp [hl, s0, s5, s6, s8, s9, s10, s21, s22, s23, ofBytes_length, bytesOf_ofBytes, stripL_bytes, cleanL_bytes, headOk_bytes, strs, minsA, minA, sliceA, buildSliceA, buildA, structPlaces, fillA, splice, bytesOf, aR_eq, aR_eq], by simp [hl, s0, s5, s6, s8, s9, s10, s21, s22, s23, ofBytes_length, bytesOf_ofBytes, stripL_bytes, cleanL_bytes, headOk_bytes, strs, minsA, minA, sliceA, buildSliceA, buildA, structPlaces, fillA, splice, bytesOf, aR_eq, aR_eq], by simp [hl, s0, s5, s6, s8, s9, s10, s21, s22, s23, ofBytes_length, bytesOf_ofBytes, stripL_bytes, cleanL_bytes, headOk_bytes, strs, minsA, minA, sliceA, buildSliceA, buildA, structPlaces, fillA, splice, bytesOf, aR_eq, aR_eq], by simp [hl, s0, s5, s6, s8, s9, s10, s21, s22, s23, ofBytes_length, bytesOf_ofBytes, stripL_bytes, cleanL_bytes, headOk_bytes, strs, minsA, minA, sliceA, buildSliceA, buildA, structPlaces, fillA, splice, bytesOf, aR_eq, aR_eq], by simp [hl, s0, s5, s6, s8, s9, s10, s21, s22, s23, ofBytes_length, bytesOf_ofBytes, stripL_bytes, cleanL_bytes, headOk_bytes, strs, minsA, minA, sliceA, buildSliceA, buildA, structPlaces, fillA, splice, bytesOf, aR_eq, aR_eq]⟩
              clear hl s0 s5 s6 s8 s9 s10 s21 s22 s23 fr
              rintro fr ⟨hl, s0, s5, s6, s7, s8, s9, s10, s21, s22⟩
              refine Ev.seq ?_
              refine Ev.region ?_
              obtain ⟨c11, ec11, hg⟩ := bind_some hg
              obtain ⟨ec11a, ec11b, ec11c, ec11d⟩ := getAt_some ec11
              have yec11b := ec11b
              try simp at yec11b
              have yec11d := ec11d
              try simp at yec11d
              obtain ⟨r12, er12, hg⟩ := bind_some hg
              obtain ⟨c13, ec13, hg⟩ := bind_some hg
              obtain ⟨ec13a, ec13b, ec13c, ec13d⟩ := getAt_some ec13
              have yec13b := ec13b
              try simp at yec13b
              have yec13d := ec13d
              try simp at yec13d
              obtain ⟨r14, er14, hg⟩ := bind_some hg
              refine EvOps.take 3 ?_
              apply EvOps.run
              · intro call; simp [hl, s0, s5, s6, s7, s8, s9, s10, s21, s22, ec11a, ec11b, ec11c, ec11d, yec11b, yec11d, ec13a, ec13b, ec13c, ec13d, yec13b, yec13d, ofBytes_length, bytesOf_ofBytes, stripL_bytes, cleanL_bytes, headOk_bytes, strs, minsA, minA, sliceA, buildSliceA, buildA, structPlaces, fillA, splice, bytesOf, aR_eq, aR_eq]; exact rfl
              refine EvOps.call rfl (by simp [hl, s0, s5, s6, s7, s8, s9, s10, s21, s22, ec11a, ec11b, ec11c, ec11d, yec11b, yec11d, ec13a, ec13b, ec13c, ec13d, yec13b, yec13d, ofBytes_length, bytesOf_ofBytes, stripL_bytes, cleanL_bytes, headOk_bytes, strs, minsA, minA, sliceA, buildSliceA, buildA, structPlaces, fillA, splice, bytesOf, aR_eq, aR_eq]) (by simp [hl, s0, s5, s6, s7, s8, s9, s10, s21, s22, ec11a, ec11b, ec11c, ec11d, yec11b, yec11d, ec13a, ec13b, ec13c, ec13d, yec13b, yec13d, ofBytes_length, bytesOf_ofBytes, stripL_bytes, cleanL_bytes, headOk_bytes, strs, minsA, minA, sliceA, buildSliceA, buildA, structPlaces, fillA, splice, bytesOf, aR_eq, aR_eq] <;> exact rfl) (by simp [hl, s0, s5, s6, s7, s8, s9, s10, s21, s22, ec11a, ec11b, ec11c, ec11d, yec11b, yec11d, ec13a, ec13b, ec13c, ec13d, yec13b, yec13d, ofBytes_length, bytesOf_ofBytes, stripL_bytes, cleanL_bytes, headOk_bytes, strs, minsA, minA, sliceA, buildSliceA, buildA, structPlaces, fillA, splice, bytesOf, aR_eq, aR_eq] <;> exact rfl) (F77_ok er12) ?_
              refine EvOps.take 3 ?_
              apply EvOps.run
              · intro call; simp [hl, s0, s5, s6, s7, s8, s9, s10, s21, s22, ec11a, ec11b, ec11c, ec11d, yec11b, yec11d, ec13a, ec13b, ec13c, ec13d, yec13b, yec13d, ofBytes_length, bytesOf_ofBytes, stripL_bytes, cleanL_bytes, headOk_bytes, strs, minsA, minA, sliceA, buildSliceA, buildA, structPlaces, fillA, splice, bytesOf, aR_eq, aR_eq]; exact rfl
              refine EvOps.call rfl (by simp [hl, s0, s5, s6, s7, s8, s9, s10, s21, s22, ec11a, ec11b, ec11c, ec11d, yec11b, yec11d, ec13a, ec13b, ec13c, ec13d, yec13b, yec13d, ofBytes_length, bytesOf_ofBytes, stripL_bytes, cleanL_bytes, headOk_bytes, strs, minsA, minA, sliceA, buildSliceA, buildA, structPlaces, fillA, splice, bytesOf, aR_eq, aR_eq]) (by simp [hl, s0, s5, s6, s7, s8, s9, s10, s21, s22, ec11a, ec11b, ec11c, ec11d, yec11b, yec11d, ec13a, ec13b, ec13c, ec13d, yec13b, yec13d, ofBytes_length, bytesOf_ofBytes, stripL_bytes, cleanL_bytes, headOk_bytes, strs, minsA, minA, sliceA, buildSliceA, buildA, structPlaces, fillA, splice, bytesOf, aR_eq, aR_eq] <;> exact rfl) (by simp [hl, s0, s5, s6, s7, s8, s9, s10, s21, s22, ec11a, ec11b, ec11c, ec11d, yec11b, yec11d, ec13a, ec13b, ec13c, ec13d, yec13b, yec13d, ofBytes_length, bytesOf_ofBytes, stripL_bytes, cleanL_bytes, headOk_bytes, strs, minsA, minA, sliceA, buildSliceA, buildA, structPlaces, fillA, splice, bytesOf, aR_eq, aR_eq] <;> exact rfl) (F77_ok er14) ?_
              apply EvOps.keep (h' := []) (d' := false) (fun fr => fr.length = 37 ∧ slotAt fr 0 = some (AV.str a0) ∧ slotAt fr 5 = some (AV.int .i64 v1) ∧ slotAt fr 6 = some (AV.str x6) ∧ slotAt fr 8 = some (.list (a1.map AV.str) false none none) ∧ slotAt fr 9 = some (AV.int .i64 ((List.length a1 : Int))) ∧ slotAt fr 10 = some (AV.int .i64 v1) ∧ slotAt fr 21 = some (AV.int .i64 ((List.length x6 : Int))) ∧ slotAt fr 22 = some (AV.int .i64 v8) ∧ slotAt fr 33 = some (AV.bool (((r12 : Int) != r14))))
              · intro call; simp [hl, s0, s5, s6, s7, s8, s9, s10, s21, s22, ec11a, ec11b, ec11c, ec11d, yec11b, yec11d, ec13a, ec13b, ec13c, ec13d, yec13b, yec13d, ofBytes_length, bytesOf_ofBytes, stripL_bytes, cleanL_bytes, headOk_bytes, strs, minsA, minA, sliceA, buildSliceA, buildA, structPlaces, fillA, splice, bytesOf, aR_eq, aR_eq]; exact rfl
              · exact ⟨by simp [hl], by simp [hl, s0, s5, s6, s7, s8, s9, s10, s21, s22, ec11a, ec11b, ec11c, ec11d, yec11b, yec11d, ec13a, ec13b, ec13c, ec13d, yec13b, yec13d, ofBytes_length, bytesOf_ofBytes, stripL_bytes, cleanL_bytes, headOk_bytes, strs, minsA, minA, sliceA, buildSliceA, buildA, structPlaces, fillA, splice, bytesOf, aR_eq, aR_eq], by simp [hl, s0, s5, s6, s7, s8, s9, s10, s21, s22, ec11a, ec11b, ec11c, ec11d, yec11b, yec11d, ec13a, ec13b, ec13c, ec13d, yec13b, yec13d, ofBytes_length, bytesOf_ofBytes, stripL_bytes, cleanL_bytes, headOk_bytes, strs, minsA, minA, sliceA, buildSliceA, buildA, structPlaces, fillA, splice, bytesOf, aR_eq, aR_eq], by simp [hl, s0, s5, s6, s7, s8, s9, s10, s21, s22, ec11a, ec11b, ec11c, ec11d, yec11b, yec11d, ec13a, ec13b, ec13c, ec13d, yec13b, yec13d, ofBytes_length, bytesOf_ofBytes, stripL_bytes, cleanL_bytes, headOk_bytes, strs, minsA, minA, sliceA, buildSliceA, buildA, structPlaces, fillA, splice, bytesOf, aR_eq, aR_eq], by simp [hl, s0, s5, s6, s7, s8, s9, s10, s21, s22, ec11a, ec11b, ec11c, ec11d, yec11b, yec11d, ec13a, ec13b, ec13c, ec13d, yec13b, yec13d, ofBytes_length, bytesOf_ofBytes, stripL_bytes, cleanL_bytes, headOk_bytes, strs, minsA, minA, sliceA, buildSliceA, buildA, structPlaces, fillA, splice, bytesOf, aR_eq, aR_eq], by simp [hl, s0, s5, s6, s7, s8, s9, s10, s21, s22, ec11a, ec11b, ec11c, ec11d, yec11b, yec11d, ec13a, ec13b, ec13c, ec13d, yec13b, yec13d, ofBytes_length, bytesOf_ofBytes, stripL_bytes, cleanL_bytes, headOk_bytes, strs, minsA, minA, sliceA, buildSliceA, buildA, structPlaces, fillA, splice, bytesOf, aR_eq, aR_eq], by simp [hl, s0, s5, s6, s7, s8, s9, s10, s21, s22, ec11a, ec11b, ec11c, ec11d, yec11b, yec11d, ec13a, ec13b, ec13c, ec13d, yec13b, yec13d, ofBytes_length, bytesOf_ofBytes, stripL_bytes, cleanL_bytes, headOk_bytes, strs, minsA, minA, sliceA, buildSliceA, buildA, structPlaces, fillA, splice, bytesOf, aR_eq, aR_eq], by simp [hl, s0, s5, s6, s7, s8, s9, s10, s21, s22, ec11a, ec11b, ec11c, ec11d, yec11b, yec11d, ec13a, ec13b, ec13c, ec13d, yec13b, yec13d, ofBytes_length, bytesOf_ofBytes, stripL_bytes, cleanL_bytes, headOk_bytes, strs, minsA, minA, sliceA, buildSliceA, buildA, structPlaces, fillA, splice, bytesOf, aR_eq, aR_eq], by simp [hl, s0, s5, s6, s7, s8, s9, s10, s21, s22, ec11a, ec11b, ec11c, ec11d, yec11b, yec11d, ec13a, ec13b, ec13c, ec13d, yec13b, yec13d, ofBytes_length, bytesOf_ofBytes, stripL_bytes, cleanL_bytes, headOk_bytes, strs, minsA, minA, sliceA, buildSliceA, buildA, structPlaces, fillA, splice, bytesOf, aR_eq, aR_eq], by simp [hl, s0, s5, s6, s7, s8, s9, s10, s21, s22, ec11a, ec11b, ec11c, ec11d, yec11b, yec11d, ec13a, ec13b, ec13c, ec13d, yec13b, yec13d, ofBytes_length, bytesOf_ofBytes, stripL_bytes, cleanL_bytes, headOk_bytes, strs, minsA, minA, sliceA, buildSliceA, buildA, structPlaces, fillA, splice, bytesOf, aR_eq, aR_eq]⟩
              clear hl s0 s5 s6 s7 s8 s9 s10 s21 s22 fr
              rintro fr ⟨hl, s0, s5, s6, s8, s9, s10, s21, s22, s33⟩
              refine Ev.cond (((r12 : Int) != r14)) (by simp [hl, s0, s5, s6, s8, s9, s10, s21, s22, s33, ofBytes_length, bytesOf_ofBytes, stripL_bytes, cleanL_bytes, headOk_bytes, strs, minsA, minA, sliceA, buildSliceA, buildA, structPlaces, fillA, splice, bytesOf, aR_eq, aR_eq]) (fun h_15 => ?_) (fun h_15 => ?_)
              · rw [if_pos h_15] at hg
                refine Ev.exit ?_
                have hs := Option.some.inj hg; subst hs; clear hg; have ho := Option.some.inj hstep; subst ho
                exact .inl ⟨rfl, _, rfl, hl, by simp [hl, s0, s5, s6, s8, s9, s10, s21, s22, s33, ofBytes_length, bytesOf_ofBytes, stripL_bytes, cleanL_bytes, headOk_bytes, strs, minsA, minA, sliceA, buildSliceA, buildA, structPlaces, fillA, splice, bytesOf, aR_eq, aR_eq], by simp [hl, s0, s5, s6, s8, s9, s10, s21, s22, s33, ofBytes_length, bytesOf_ofBytes, stripL_bytes, cleanL_bytes, headOk_bytes, strs, minsA, minA, sliceA, buildSliceA, buildA, structPlaces, fillA, splice, bytesOf, aR_eq, aR_eq], by simp [hl, s0, s5, s6, s8, s9, s10, s21, s22, s33, ofBytes_length, bytesOf_ofBytes, stripL_bytes, cleanL_bytes, headOk_bytes, strs, minsA, minA, sliceA, buildSliceA, buildA, structPlaces, fillA, splice, bytesOf, aR_eq, aR_eq], by simp [hl, s0, s5, s6, s8, s9, s10, s21, s22, s33, ofBytes_length, bytesOf_ofBytes, stripL_bytes, cleanL_bytes, headOk_bytes, strs, minsA, minA, sliceA, buildSliceA, buildA, structPlaces, fillA, splice, bytesOf, aR_eq, aR_eq], rfl⟩
              · rw [if_neg (by rw [h_15]; simp)] at hg
                refine Ev.skip ?_
                refine Ev.region ?_
                apply EvOps.keep (h' := []) (d' := false) (fun fr => fr.length = 37 ∧ slotAt fr 0 = some (AV.str a0) ∧ slotAt fr 5 = some (AV.int .i64 v1) ∧ slotAt fr 6 = some (AV.str x6) ∧ slotAt fr 8 = some (.list (a1.map AV.str) false none none) ∧ slotAt fr 9 = some (AV.int .i64 ((List.length a1 : Int))) ∧ slotAt fr 10 = some (AV.int .i64 v1) ∧ slotAt fr 21 = some (AV.int .i64 ((List.length x6 : Int))) ∧ slotAt fr 22 = some (AV.int .i64 (IntKind.wrap .i64 (v8 + (1 : Int)))))
                · intro call; simp [hl, s0, s5, s6, s8, s9, s10, s21, s22, s33, ofBytes_length, bytesOf_ofBytes, stripL_bytes, cleanL_bytes, headOk_bytes, strs, minsA, minA, sliceA, buildSliceA, buildA, structPlaces, fillA, splice, bytesOf, aR_eq, aR_eq]; exact rfl
                · exact ⟨by simp [hl], by simp [hl, s0, s5, s6, s8, s9, s10, s21, s22, s33, ofBytes_length, bytesOf_ofBytes, stripL_bytes, cleanL_bytes, headOk_bytes, strs, minsA, minA, sliceA, buildSliceA, buildA, structPlaces, fillA, splice, bytesOf, aR_eq, aR_eq], by simp [hl, s0, s5, s6, s8, s9, s10, s21, s22, s33, ofBytes_length, bytesOf_ofBytes, stripL_bytes, cleanL_bytes, headOk_bytes, strs, minsA, minA, sliceA, buildSliceA, buildA, structPlaces, fillA, splice, bytesOf, aR_eq, aR_eq], by simp [hl, s0, s5, s6, s8, s9, s10, s21, s22, s33, ofBytes_length, bytesOf_ofBytes, stripL_bytes, cleanL_bytes, headOk_bytes, strs, minsA, minA, sliceA, buildSliceA, buildA, structPlaces, fillA, splice, bytesOf, aR_eq, aR_eq], by simp [hl, s0, s5, s6, s8, s9, s10, s21, s22, s33, ofBytes_length, bytesOf_ofBytes, stripL_bytes, cleanL_bytes, headOk_bytes, strs, minsA, minA, sliceA, buildSliceA, buildA, structPlaces, fillA, splice, bytesOf, aR_eq, aR_eq], by simp [hl, s0, s5, s6, s8, s9, s10, s21, s22, s33, ofBytes_length, bytesOf_ofBytes, stripL_bytes, cleanL_bytes, headOk_bytes, strs, minsA, minA, sliceA, buildSliceA, buildA, structPlaces, fillA, splice, bytesOf, aR_eq, aR_eq], by simp [hl, s0, s5, s6, s8, s9, s10, s21, s22, s33, ofBytes_length, bytesOf_ofBytes, stripL_bytes, cleanL_bytes, headOk_bytes, strs, minsA, minA, sliceA, buildSliceA, buildA, structPlaces, fillA, splice, bytesOf, aR_eq, aR_eq], by simp [hl, s0, s5, s6, s8, s9, s10, s21, s22, s33, ofBytes_length, bytesOf_ofBytes, stripL_bytes, cleanL_bytes, headOk_bytes, strs, minsA, minA, sliceA, buildSliceA, buildA, structPlaces, fillA, splice, bytesOf, aR_eq, aR_eq], by simp [hl, s0, s5, s6, s8, s9, s10, s21, s22, s33, ofBytes_length, bytesOf_ofBytes, stripL_bytes, cleanL_bytes, headOk_bytes, strs, minsA, minA, sliceA, buildSliceA, buildA, structPlaces, fillA, splice, bytesOf, aR_eq, aR_eq]⟩
                clear hl s0 s5 s6 s8 s9 s10 s21 s22 s33 fr
                rintro fr ⟨hl, s0, s5, s6, s8, s9, s10, s21, s22⟩
                have hs := Option.some.inj hg; subst hs; clear hg
                exact ⟨m, Nat.lt_succ_self m, _, IntKind.wrap .i64 (v8 + (1 : Int)), rfl, hl, by simp [hl, s0, s5, s6, s8, s9, s10, s21, s22, ofBytes_length, bytesOf_ofBytes, stripL_bytes, cleanL_bytes, headOk_bytes, strs, minsA, minA, sliceA, buildSliceA, buildA, structPlaces, fillA, splice, bytesOf, aR_eq, aR_eq], by simp [hl, s0, s5, s6, s8, s9, s10, s21, s22, ofBytes_length, bytesOf_ofBytes, stripL_bytes, cleanL_bytes, headOk_bytes, strs, minsA, minA, sliceA, buildSliceA, buildA, structPlaces, fillA, splice, bytesOf, aR_eq, aR_eq], by simp [hl, s0, s5, s6, s8, s9, s10, s21, s22, ofBytes_length, bytesOf_ofBytes, stripL_bytes, cleanL_bytes, headOk_bytes, strs, minsA, minA, sliceA, buildSliceA, buildA, structPlaces, fillA, splice, bytesOf, aR_eq, aR_eq], by simp [hl, s0, s5, s6, s8, s9, s10, s21, s22, ofBytes_length, bytesOf_ofBytes, stripL_bytes, cleanL_bytes, headOk_bytes, strs, minsA, minA, sliceA, buildSliceA, buildA, structPlaces, fillA, splice, bytesOf, aR_eq, aR_eq], by simp [hl, s0, s5, s6, s8, s9, s10, s21, s22, ofBytes_length, bytesOf_ofBytes, stripL_bytes, cleanL_bytes, headOk_bytes, strs, minsA, minA, sliceA, buildSliceA, buildA, structPlaces, fillA, splice, bytesOf, aR_eq, aR_eq], by simp [hl, s0, s5, s6, s8, s9, s10, s21, s22, ofBytes_length, bytesOf_ofBytes, stripL_bytes, cleanL_bytes, headOk_bytes, strs, minsA, minA, sliceA, buildSliceA, buildA, structPlaces, fillA, splice, bytesOf, aR_eq, aR_eq], by simp [hl, s0, s5, s6, s8, s9, s10, s21, s22, ofBytes_length, bytesOf_ofBytes, stripL_bytes, cleanL_bytes, headOk_bytes, strs, minsA, minA, sliceA, buildSliceA, buildA, structPlaces, fillA, splice, bytesOf, aR_eq, aR_eq], by simp [hl, s0, s5, s6, s8, s9, s10, s21, s22, ofBytes_length, bytesOf_ofBytes, stripL_bytes, cleanL_bytes, headOk_bytes, strs, minsA, minA, sliceA, buildSliceA, buildA, structPlaces, fillA, splice, bytesOf, aR_eq, aR_eq], hstep⟩
            · rw [if_neg (by rw [h_10]; simp)] at hg
              refine Ev.exit ?_
              have hs := Option.some.inj hg; subst hs; clear hg; have ho := Option.some.inj hstep; subst ho
              exact .inr (⟨rfl, _, rfl, hl, by simp [hl, s0, s5, s6, s8, s9, s10, s21, s22, s23, ofBytes_length, bytesOf_ofBytes, stripL_bytes, cleanL_bytes, headOk_bytes, strs, minsA, minA, sliceA, buildSliceA, buildA, structPlaces, fillA, splice, bytesOf, aR_eq, aR_eq], rfl⟩)
          · clear eo16 hl s0 s5 s6 s8 s9 s10 s21 s22 fr
            rintro x st (⟨rfl, fr, rfl, hl, s0, s8, s9, s10, ho⟩ | ⟨rfl, fr, rfl, hl, s5, ho⟩)
            · rw [ho] at hg; (try dsimp only at hg); clear ho
              exact ⟨_, rfl, hl, by simp [hl, s0, s8, s9, s10, ofBytes_length, bytesOf_ofBytes, stripL_bytes, cleanL_bytes, headOk_bytes, strs, minsA, minA, sliceA, buildSliceA, buildA, structPlaces, fillA, splice, bytesOf, aR_eq, aR_eq], by simp [hl, s0, s8, s9, s10, ofBytes_length, bytesOf_ofBytes, stripL_bytes, cleanL_bytes, headOk_bytes, strs, minsA, minA, sliceA, buildSliceA, buildA, structPlaces, fillA, splice, bytesOf, aR_eq, aR_eq], by simp [hl, s0, s8, s9, s10, ofBytes_length, bytesOf_ofBytes, stripL_bytes, cleanL_bytes, headOk_bytes, strs, minsA, minA, sliceA, buildSliceA, buildA, structPlaces, fillA, splice, bytesOf, aR_eq, aR_eq], by simp [hl, s0, s8, s9, s10, ofBytes_length, bytesOf_ofBytes, stripL_bytes, cleanL_bytes, headOk_bytes, strs, minsA, minA, sliceA, buildSliceA, buildA, structPlaces, fillA, splice, bytesOf, aR_eq, aR_eq], hg⟩
            · rw [ho] at hg; (try dsimp only at hg); clear ho
              refine Ev.seq ?_
              refine Ev.region ?_
              apply EvOps.keep (h' := []) (d' := false) (fun fr => fr.length = 37 ∧ slotAt fr 4 = some (AV.int .i64 v1))
              · intro call; simp [hl, s5, ofBytes_length, bytesOf_ofBytes, stripL_bytes, cleanL_bytes, headOk_bytes, strs, minsA, minA, sliceA, buildSliceA, buildA, structPlaces, fillA, splice, bytesOf, aR_eq, aR_eq]; exact rfl
              · exact ⟨by simp [hl], by simp [hl, s5, ofBytes_length, bytesOf_ofBytes, stripL_bytes, cleanL_bytes, headOk_bytes, strs, minsA, minA, sliceA, buildSliceA, buildA, structPlaces, fillA, splice, bytesOf, aR_eq, aR_eq]⟩
              clear hl s5 fr
              rintro fr ⟨hl, s4⟩
              refine Ev.ret ?_
              have hs := Option.some.inj hg; subst hs; clear hg; have ho := Option.some.inj hstep; subst ho
              exact .inr (⟨rfl, _, v1, rfl, hl, by simp [hl, s4, ofBytes_length, bytesOf_ofBytes, stripL_bytes, cleanL_bytes, headOk_bytes, strs, minsA, minA, sliceA, buildSliceA, buildA, structPlaces, fillA, splice, bytesOf, aR_eq, aR_eq], rfl⟩)
      · clear hg hl s0 s8 s9 s10 s11 fr
        rintro st ⟨fr, rfl, hl, s0, s8, s9, s10, hg⟩
        unfold F35_j4 at hg
        refine Ev.region ?_
        apply EvOps.keep (h' := []) (d' := false) (fun fr => fr.length = 37 ∧ slotAt fr 0 = some (AV.str a0) ∧ slotAt fr 8 = some (.list (a1.map AV.str) false none none) ∧ slotAt fr 9 = some (AV.int .i64 ((List.length a1 : Int))) ∧ slotAt fr 10 = some (AV.int .i64 (IntKind.wrap .i64 (v1 + (1 : Int)))))
        · intro call; simp [hl, s0, s8, s9, s10, ofBytes_length, bytesOf_ofBytes, stripL_bytes, cleanL_bytes, headOk_bytes, strs, minsA, minA, sliceA, buildSliceA, buildA, structPlaces, fillA, splice, bytesOf, aR_eq, aR_eq]; exact rfl
        · exact ⟨by simp [hl], by simp [hl, s0, s8, s9, s10, ofBytes_length, bytesOf_ofBytes, stripL_bytes, cleanL_bytes, headOk_bytes, strs, minsA, minA, sliceA, buildSliceA, buildA, structPlaces, fillA, splice, bytesOf, aR_eq, aR_eq], by simp [hl, s0, s8, s9, s10, ofBytes_length, bytesOf_ofBytes, stripL_bytes, cleanL_bytes, headOk_bytes, strs, minsA, minA, sliceA, buildSliceA, buildA, structPlaces, fillA, splice, bytesOf, aR_eq, aR_eq], by simp [hl, s0, s8, s9, s10, ofBytes_length, bytesOf_ofBytes, stripL_bytes, cleanL_bytes, headOk_bytes, strs, minsA, minA, sliceA, buildSliceA, buildA, structPlaces, fillA, splice, bytesOf, aR_eq, aR_eq], by simp [hl, s0, s8, s9, s10, ofBytes_length, bytesOf_ofBytes, stripL_bytes, cleanL_bytes, headOk_bytes, strs, minsA, minA, sliceA, buildSliceA, buildA, structPlaces, fillA, splice, bytesOf, aR_eq, aR_eq]⟩
        clear hl s0 s8 s9 s10 fr
        rintro fr ⟨hl, s0, s8, s9, s10⟩
        have hs := Option.some.inj hg; subst hs; clear hg
        exact ⟨m, Nat.lt_succ_self m, _, IntKind.wrap .i64 (v1 + (1 : Int)), rfl, hl, by simp [hl, s0, s8, s9, s10, ofBytes_length, bytesOf_ofBytes, stripL_bytes, cleanL_bytes, headOk_bytes, strs, minsA, minA, sliceA, buildSliceA, buildA, structPlaces, fillA, splice, bytesOf, aR_eq, aR_eq], by simp [hl, s0, s8, s9, s10, ofBytes_length, bytesOf_ofBytes, stripL_bytes, cleanL_bytes, headOk_bytes, strs, minsA, minA, sliceA, buildSliceA, buildA, structPlaces, fillA, splice, bytesOf, aR_eq, aR_eq], by simp [hl, s0, s8, s9, s10, ofBytes_length, bytesOf_ofBytes, stripL_bytes, cleanL_bytes, headOk_bytes, strs, minsA, minA, sliceA, buildSliceA, buildA, structPlaces, fillA, splice, bytesOf, aR_eq, aR_eq], by simp [hl, s0, s8, s9, s10, ofBytes_length, bytesOf_ofBytes, stripL_bytes, cleanL_bytes, headOk_bytes, strs, minsA, minA, sliceA, buildSliceA, buildA, structPlaces, fillA, splice, bytesOf, aR_eq, aR_eq], hstep⟩
    · rw [if_neg (by rw [h_4]; simp)] at hg
      refine Ev.exit ?_
      have hs := Option.some.inj hg; subst hs; clear hg; have ho := Option.some.inj hstep; subst ho
      exact .inl ⟨rfl, _, rfl, hl, rfl⟩
  · clear eo17 hl s0 s8 s9 s10 fr
    rintro x st (⟨rfl, fr, rfl, hl, ho⟩ | ⟨rfl, fr, v3, rfl, hl, s4, ho⟩)
    · rw [ho] at hg; (try dsimp only at hg); clear ho
      refine Ev.seq ?_
      refine Ev.region ?_
      apply EvOps.keep (h' := []) (d' := false) (fun fr => fr.length = 37 ∧ slotAt fr 4 = some (AV.int .i64 ((-1))))
      · intro call; simp [hl, ofBytes_length, bytesOf_ofBytes, stripL_bytes, cleanL_bytes, headOk_bytes, strs, minsA, minA, sliceA, buildSliceA, buildA, structPlaces, fillA, splice, bytesOf, aR_eq, aR_eq]; exact rfl
      · exact ⟨by simp [hl], by simp [hl, ofBytes_length, bytesOf_ofBytes, stripL_bytes, cleanL_bytes, headOk_bytes, strs, minsA, minA, sliceA, buildSliceA, buildA, structPlaces, fillA, splice, bytesOf, aR_eq, aR_eq]⟩
      clear hl  fr
      rintro fr ⟨hl, s4⟩
      refine Ev.ret ?_
      have hs := Option.some.inj hg; subst hs
      exact ⟨AV.int .i64 ((-1)), by simp [Try.f35, hl, s4, ofBytes_length, bytesOf_ofBytes, stripL_bytes, cleanL_bytes, headOk_bytes, strs, minsA, minA, sliceA, buildSliceA, buildA, structPlaces, fillA, splice, bytesOf, aR_eq, aR_eq] <;> exact rfl, by simp [strs, aR_eq, aR_eq]⟩
    · rw [ho] at hg; (try dsimp only at hg); clear ho
      have hs := Option.some.inj hg; subst hs
      exact ⟨AV.int .i64 v3, by simp [Try.f35, hl, s4, ofBytes_length, bytesOf_ofBytes, stripL_bytes, cleanL_bytes, headOk_bytes, strs, minsA, minA, sliceA, buildSliceA, buildA, structPlaces, fillA, splice, bytesOf, aR_eq, aR_eq] <;> exact rfl, by simp [strs, aR_eq, aR_eq]⟩

/-- pentimento/num.Parse -/
def F78_l9_b (k : Nat) (v4 : S) : Int × Int → Option (Sum (Int × Int) (Sum Int (Int × Bool))) := fun lv =>
  match lv with | (v8, v9) => (if decide ((v9 : Int) < (List.length v4 : Int)) = true then (getAt v4 v9).bind fun c15 => (if ((decide ((IntKind.wrap .i64 ((IntKind.wrap .i64 ((c15.toNat : Int))) - (48 : Int)) : Int) < 0) || decide ((IntKind.wrap .i64 ((IntKind.wrap .i64 ((c15.toNat : Int))) - (48 : Int)) : Int) > 9)) || decide ((v8 : Int) < IntKind.wrap .i64 (Int.tdiv (IntKind.wrap .i64 (((-9223372036854775808) : Int) + (IntKind.wrap .i64 ((IntKind.wrap .i64 ((c15.toNat : Int))) - (48 : Int))))) (10 : Int)))) = true then some (Sum.inr (Sum.inr (0, false))) else some (Sum.inl (IntKind.wrap .i64 ((IntKind.wrap .i64 ((10 : Int) * v8)) - (IntKind.wrap .i64 ((IntKind.wrap .i64 ((c15.toNat : Int))) - (48 : Int)))), IntKind.wrap .i64 (v9 + (1 : Int))))) else some (Sum.inr (Sum.inl v8)))
def F78_l9 (k : Nat) (v4 : S) : Nat → Int × Int → Option (Sum Int (Int × Bool))
  | 0, _ => none
  | m + 1, lv => (F78_l9_b k v4 lv).bind fun s => match s with | .inl lv => F78_l9 k v4 m lv | .inr o => some o
def F78_j20 (k : Nat) (a0 : S) (v20 : Int) : Option (Int × Bool) :=
  (F129 k v20).bind fun r22 => (if (!(r22 == a0)) = true then some ((0, false)) else some ((v20, true)))
def F78_j4 (k : Nat) (a0 : S) (q2 : Bool) (v4 : S) : Option (Int × Bool) :=
  (if ((v4 == []) || decide (((List.length v4 : Int) : Int) > 19)) = true then some ((0, false)) else (F78_l9 k v4 k (0, 0)).bind fun o19 => (match o19 with | (Sum.inl v11) => (if (!q2) = true then (if ((v11 : Int) == (-9223372036854775808)) = true then some ((0, false)) else F78_j20 k a0 (IntKind.wrap .i64 (0 - v11))) else F78_j20 k a0 v11) | (Sum.inr (v12, v13)) => some ((v12, v13))))
def F78 (k : Nat) (a0 : S) : Option (Int × Bool) :=
  (if decide (((List.length a0 : Int) : Int) > 0) = true then ((getAt a0 0).bind fun c1 => some ((((c1.toNat : Int) : Int) == 45))) else some false).bind fun q2 => (if q2 = true then (chk (1 ≤ (List.length a0 : Int))).bind fun _ => F78_j4 k a0 q2 (List.drop 1 a0) else F78_j4 k a0 q2 a0)
set_option maxHeartbeats 8000000 in
theorem F78_ok {k : Nat} {a0 : S} {r : Int × Bool} (hg : F78 k a0 = some r) : Ret cfg 78 [AV.str a0] (AV.tuple [AV.int .i64 r.1, AV.bool r.2]) := by
  unfold F78 at hg
  refine Ret.of_body rfl rfl Try.func78 rfl (by simp [strs, stripL_bytes, cleanL_bytes, headOk_bytes]) (by simp [strs, stripL_bytes, cleanL_bytes, headOk_bytes]) ?_
  obtain ⟨fr, hfr⟩ : ∃ fr, fr = [AV.str a0] ++ List.replicate (Try.f78.ntmps - [AV.str a0].length) AV.undef := ⟨_, rfl⟩
  rw [← hfr]
  have hl : fr.length = 67 := by rw [hfr]; rfl
  have s0 : slotAt fr 0 = some (AV.str a0) := by rw [hfr]; first | rfl | simp [aR_eq, aR_eq]
  clear hfr
  refine Ev.seq ?_
  refine Ev.region ?_
  apply EvOps.keep (h' := []) (d' := false) (fun fr => fr.length = 67 ∧ slotAt fr 0 = some (AV.str a0))
  · intro call; simp [hl, s0, ofBytes_length, bytesOf_ofBytes, stripL_bytes, cleanL_bytes, headOk_bytes, strs, minsA, minA, sliceA, buildSliceA, buildA, structPlaces, fillA, splice, bytesOf, aR_eq, aR_eq]; exact rfl
  · exact ⟨by simp [hl], by simp [hl, s0, ofBytes_length, bytesOf_ofBytes, stripL_bytes, cleanL_bytes, headOk_bytes, strs, minsA, minA, sliceA, buildSliceA, buildA, structPlaces, fillA, splice, bytesOf, aR_eq, aR_eq]⟩
  clear hl s0 fr
  rintro fr ⟨hl, s0⟩
  refine Ev.seq ?_
  refine Ev.region ?_
  apply EvOps.keep (h' := []) (d' := false) (fun fr => fr.length = 67 ∧ slotAt fr 0 = some (AV.str a0) ∧ slotAt fr 4 = some (AV.int .i64 0))
  · intro call; simp [hl, s0, ofBytes_length, bytesOf_ofBytes, stripL_bytes, cleanL_bytes, headOk_bytes, strs, minsA, minA, sliceA, buildSliceA, buildA, structPlaces, fillA, splice, bytesOf, aR_eq, aR_eq]; exact rfl
  · exact ⟨by simp [hl], by simp [hl, s0, ofBytes_length, bytesOf_ofBytes, stripL_bytes, cleanL_bytes, headOk_bytes, strs, minsA, minA, sliceA, buildSliceA, buildA, structPlaces, fillA, splice, bytesOf, aR_eq, aR_eq], by simp [hl, s0, ofBytes_length, bytesOf_ofBytes, stripL_bytes, cleanL_bytes, headOk_bytes, strs, minsA, minA, sliceA, buildSliceA, buildA, structPlaces, fillA, splice, bytesOf, aR_eq, aR_eq]⟩
  clear hl s0 fr
  rintro fr ⟨hl, s0, s4⟩
  refine Ev.seq ?_
  refine Ev.region ?_
  obtain ⟨q2, eq2, hg⟩ := bind_some hg
  refine EvOps.mono (Q := fun st => ∃ fr, st = ⟨fr, [], false⟩ ∧ fr.length = 67 ∧ slotAt fr 0 = some (AV.str a0) ∧ slotAt fr 4 = some (AV.int .i64 0) ∧ slotAt fr 5 = some (AV.bool q2)) ?_ ?_
  · refine EvOps.mid 8 (fun st => ∃ fr, st = ⟨fr, [], false⟩ ∧ fr.length = 67 ∧ slotAt fr 0 = some (AV.str a0) ∧ slotAt fr 4 = some (AV.int .i64 0) ∧ slotAt fr 16 = some (AV.bool q2)) ?_ ?_
    · refine EvOps.take 4 ?_
      apply EvOps.run
      · intro call; simp [hl, s0, s4, ofBytes_length, bytesOf_ofBytes, stripL_bytes, cleanL_bytes, headOk_bytes, strs, minsA, minA, sliceA, buildSliceA, buildA, structPlaces, fillA, splice, bytesOf, aR_eq, aR_eq]; exact rfl
      refine EvOps.gen (fun fr => fr.length = 67 ∧ slotAt fr 0 = some (AV.str a0) ∧ slotAt fr 4 = some (AV.int .i64 0) ∧ slotAt fr 12 = some (AV.bool (decide (((List.length a0 : Int) : Int) > 0)))) ⟨by simp [hl], by simp [hl, s0, s4, ofBytes_length, bytesOf_ofBytes, stripL_bytes, cleanL_bytes, headOk_bytes, strs, minsA, minA, sliceA, buildSliceA, buildA, structPlaces, fillA, splice, bytesOf, aR_eq, aR_eq], by simp [hl, s0, s4, ofBytes_length, bytesOf_ofBytes, stripL_bytes, cleanL_bytes, headOk_bytes, strs, minsA, minA, sliceA, buildSliceA, buildA, structPlaces, fillA, splice, bytesOf, aR_eq, aR_eq], by simp [hl, s0, s4, ofBytes_length, bytesOf_ofBytes, stripL_bytes, cleanL_bytes, headOk_bytes, strs, minsA, minA, sliceA, buildSliceA, buildA, structPlaces, fillA, splice, bytesOf, aR_eq, aR_eq]⟩ ?_
      clear hl s0 s4 fr
      rintro fr ⟨hl, s0, s4, s12⟩
      obtain ⟨w3, hw3⟩ : ∃ b : Bool, b = (decide (((List.length a0 : Int) : Int) > 0)) := ⟨_, rfl⟩
      rw [← hw3] at s12
      cases w3 with
      | true =>
        rw [← hw3] at eq2
        rw [if_pos rfl] at eq2
        obtain ⟨c1, ec1, eq2⟩ := bind_some eq2
        obtain ⟨ec1a, ec1b, ec1c, ec1d⟩ := getAt_some ec1
        have yec1b := ec1b
        try simp at yec1b
        have yec1d := ec1d
        try simp at yec1d
        have kc1 : a0[0]? = some c1 := ec1c
        have lc1 : ∀ h : 0 < List.length a0, a0[0]'h = c1 := ec1d
        have eq2 := (Option.some.inj eq2).symm
        apply EvOps.run
        · intro call; simp [hl, s0, s4, s12, ec1a, ec1b, ec1c, ec1d, yec1b, yec1d, kc1, lc1, eq2, ofBytes_length, bytesOf_ofBytes, stripL_bytes, cleanL_bytes, headOk_bytes, strs, minsA, minA, sliceA, buildSliceA, buildA, structPlaces, fillA, splice, bytesOf, aR_eq, aR_eq]; exact rfl
        exact ⟨_, rfl, by simp [hl], by simp [hl, s0, s4, s12, ec1a, ec1b, ec1c, ec1d, yec1b, yec1d, kc1, lc1, eq2, ofBytes_length, bytesOf_ofBytes, stripL_bytes, cleanL_bytes, headOk_bytes, strs, minsA, minA, sliceA, buildSliceA, buildA, structPlaces, fillA, splice, bytesOf, aR_eq, aR_eq], by simp [hl, s0, s4, s12, ec1a, ec1b, ec1c, ec1d, yec1b, yec1d, kc1, lc1, eq2, ofBytes_length, bytesOf_ofBytes, stripL_bytes, cleanL_bytes, headOk_bytes, strs, minsA, minA, sliceA, buildSliceA, buildA, structPlaces, fillA, splice, bytesOf, aR_eq, aR_eq], by first | (simp [hl, s0, s4, s12, ec1a, ec1b, ec1c, ec1d, yec1b, yec1d, kc1, lc1, eq2, ofBytes_length, bytesOf_ofBytes, stripL_bytes, cleanL_bytes, headOk_bytes, strs, minsA, minA, sliceA, buildSliceA, buildA, structPlaces, fillA, splice, bytesOf, aR_eq, aR_eq]; done) | ((try simp only [← hw3]); (first | done | simp [hl, s0, s4, s12, ec1a, ec1b, ec1c, ec1d, yec1b, yec1d, kc1, lc1, eq2, ofBytes_length, bytesOf_ofBytes, stripL_bytes, cleanL_bytes, headOk_bytes, strs, minsA, minA, sliceA, buildSliceA, buildA, structPlaces, fillA, splice, bytesOf, aR_eq, aR_eq]))⟩
      | false =>
        rw [← hw3] at eq2
        rw [if_neg (by simp)] at eq2
        have eq2 := (Option.some.inj eq2).symm
        apply EvOps.run
        · intro call; simp [hl, s0, s4, s12, eq2, ofBytes_length, bytesOf_ofBytes, stripL_bytes, cleanL_bytes, headOk_bytes, strs, minsA, minA, sliceA, buildSliceA, buildA, structPlaces, fillA, splice, bytesOf, aR_eq, aR_eq]; exact rfl
        exact ⟨_, rfl, by simp [hl], by simp [hl, s0, s4, s12, eq2, ofBytes_length, bytesOf_ofBytes, stripL_bytes, cleanL_bytes, headOk_bytes, strs, minsA, minA, sliceA, buildSliceA, buildA, structPlaces, fillA, splice, bytesOf, aR_eq, aR_eq], by simp [hl, s0, s4, s12, eq2, ofBytes_length, bytesOf_ofBytes, stripL_bytes, cleanL_bytes, headOk_bytes, strs, minsA, minA, sliceA, buildSliceA, buildA, structPlaces, fillA, splice, bytesOf, aR_eq, aR_eq], by first | (simp [hl, s0, s4, s12, eq2, ofBytes_length, bytesOf_ofBytes, stripL_bytes, cleanL_bytes, headOk_bytes, strs, minsA, minA, sliceA, buildSliceA, buildA, structPlaces, fillA, splice, bytesOf, aR_eq, aR_eq]; done) | ((try simp only [← hw3]); (first | done | simp [hl, s0, s4, s12, eq2, ofBytes_length, bytesOf_ofBytes, stripL_bytes, cleanL_bytes, headOk_bytes, strs, minsA, minA, sliceA, buildSliceA, buildA, structPlaces, fillA, splice, bytesOf, aR_eq, aR_eq]))⟩
    · clear hl s0 s4 fr
      rintro st ⟨fr, rfl, hl, s0, s4, s16⟩
      apply EvOps.run
      · intro call; simp [hl, s0, s4, s16, ofBytes_length, bytesOf_ofBytes, stripL_bytes, cleanL_bytes, headOk_bytes, strs, minsA, minA, sliceA, buildSliceA, buildA, structPlaces, fillA, splice, bytesOf, aR_eq, aR_eq]; exact rfl
      exact ⟨_, rfl, by simp [hl], by simp [hl, s0, s4, s16, ofBytes_length, bytesOf_ofBytes, stripL_bytes, cleanL_bytes, headOk_bytes, strs, minsA, minA, sliceA, buildSliceA, buildA, structPlaces, fillA, splice, bytesOf, aR_eq, aR_eq], by simp [hl, s0, s4, s16, ofBytes_length, bytesOf_ofBytes, stripL_bytes, cleanL_bytes, headOk_bytes, strs, minsA, minA, sliceA, buildSliceA, buildA, structPlaces, fillA, splice, bytesOf, aR_eq, aR_eq], by simp [hl, s0, s4, s16, ofBytes_length, bytesOf_ofBytes, stripL_bytes, cleanL_bytes, headOk_bytes, strs, minsA, minA, sliceA, buildSliceA, buildA, structPlaces, fillA, splice, bytesOf, aR_eq, aR_eq]⟩
  clear hl s0 s4 fr
  rintro st ⟨fr, rfl, hl, s0, s4, s5⟩
  refine Ev.seq ?_
  refine Ev.region ?_
  apply EvOps.keep (h' := []) (d' := false) (fun fr => fr.length = 67 ∧ slotAt fr 0 = some (AV.str a0) ∧ slotAt fr 4 = some (AV.int .i64 0) ∧ slotAt fr 5 = some (AV.bool q2) ∧ slotAt fr 6 = some (AV.str a0))
  · intro call; simp [hl, s0, s4, s5, ofBytes_length, bytesOf_ofBytes, stripL_bytes, cleanL_bytes, headOk_bytes, strs, minsA, minA, sliceA, buildSliceA, buildA, structPlaces, fillA, splice, bytesOf, aR_eq, aR_eq]; exact rfl
  · exact ⟨by simp [hl], by simp [hl, s0, s4, s5, ofBytes_length, bytesOf_ofBytes, stripL_bytes, cleanL_bytes, headOk_bytes, strs, minsA, minA, sliceA, buildSliceA, buildA, structPlaces, fillA, splice, bytesOf, aR_eq, aR_eq], by simp [hl, s0, s4, s5, ofBytes_length, bytesOf_ofBytes, stripL_bytes, cleanL_bytes, headOk_bytes, strs, minsA, minA, sliceA, buildSliceA, buildA, structPlaces, fillA, splice, bytesOf, aR_eq, aR_eq], by simp [hl, s0, s4, s5, ofBytes_length, bytesOf_ofBytes, stripL_bytes, cleanL_bytes, headOk_bytes, strs, minsA, minA, sliceA, buildSliceA, buildA, structPlaces, fillA, splice, bytesOf, aR_eq, aR_eq], by simp [hl, s0, s4, s5, ofBytes_length, bytesOf_ofBytes, stripL_bytes, cleanL_bytes, headOk_bytes, strs, minsA, minA, sliceA, buildSliceA, buildA, structPlaces, fillA, splice, bytesOf, aR_eq, aR_eq]⟩
  clear hl s0 s4 s5 fr
  rintro fr ⟨hl, s0, s4, s5, s6⟩
  refine Ev.mid (fun st => ∃ (fr : List AV) (v4 : S), st = ⟨fr, [], false⟩ ∧ fr.length = 67 ∧ slotAt fr 0 = some (AV.str a0) ∧ slotAt fr 4 = some (AV.int .i64 0) ∧ slotAt fr 5 = some (AV.bool q2) ∧ slotAt fr 6 = some (AV.str v4) ∧ F78_j4 k a0 q2 v4 = some r) ?_ ?_
  · refine Ev.seq ?_
    refine Ev.region ?_
    apply EvOps.keep (h' := []) (d' := false) (fun fr => fr.length = 67 ∧ slotAt fr 0 = some (AV.str a0) ∧ slotAt fr 4 = some (AV.int .i64 0) ∧ slotAt fr 5 = some (AV.bool q2) ∧ slotAt fr 6 = some (AV.str a0) ∧ slotAt fr 18 = some (AV.bool q2))
    · intro call; simp [hl, s0, s4, s5, s6, ofBytes_length, bytesOf_ofBytes, stripL_bytes, cleanL_bytes, headOk_bytes, strs, minsA, minA, sliceA, buildSliceA, buildA, structPlaces, fillA, splice, bytesOf, aR_eq, aR_eq]; exact rfl
    · exact ⟨by simp [hl], by simp [hl, s0, s4, s5, s6, ofBytes_length, bytesOf_ofBytes, stripL_bytes, cleanL_bytes, headOk_bytes, strs, minsA, minA, sliceA, buildSliceA, buildA, structPlaces, fillA, splice, bytesOf, aR_eq, aR_eq], by simp [hl, s0, s4, s5, s6, ofBytes_length, bytesOf_ofBytes, stripL_bytes, cleanL_bytes, headOk_bytes, strs, minsA, minA, sliceA, buildSliceA, buildA, structPlaces, fillA, splice, bytesOf, aR_eq, aR_eq], by simp [hl, s0, s4, s5, s6, ofBytes_length, bytesOf_ofBytes, stripL_bytes, cleanL_bytes, headOk_bytes, strs, minsA, minA, sliceA, buildSliceA, buildA, structPlaces, fillA, splice, bytesOf, aR_eq, aR_eq], by simp [hl, s0, s4, s5, s6, ofBytes_length, bytesOf_ofBytes, stripL_bytes, cleanL_bytes, headOk_bytes, strs, minsA, minA, sliceA, buildSliceA, buildA, structPlaces, fillA, splice, bytesOf, aR_eq, aR_eq], by simp [hl, s0, s4, s5, s6, ofBytes_length, bytesOf_ofBytes, stripL_bytes, cleanL_bytes, headOk_bytes, strs, minsA, minA, sliceA, buildSliceA, buildA, structPlaces, fillA, splice, bytesOf, aR_eq, aR_eq]⟩
    clear hl s0 s4 s5 s6 fr
    rintro fr ⟨hl, s0, s4, s5, s6, s18⟩
    refine Ev.cond (q2) (by simp [hl, s0, s4, s5, s6, s18, ofBytes_length, bytesOf_ofBytes, stripL_bytes, cleanL_bytes, headOk_bytes, strs, minsA, minA, sliceA, buildSliceA, buildA, structPlaces, fillA, splice, bytesOf, aR_eq, aR_eq]) (fun h_26 => ?_) (fun h_26 => ?_)
    · rw [if_pos h_26] at hg
      refine Ev.region ?_
      obtain ⟨u27, eu27, hg⟩ := bind_some hg
      have eu27 := chk_some eu27
      have yeu27 := eu27
      try simp at yeu27
      apply EvOps.keep (h' := []) (d' := false) (fun fr => fr.length = 67 ∧ slotAt fr 0 = some (AV.str a0) ∧ slotAt fr 4 = some (AV.int .i64 0) ∧ slotAt fr 5 = some (AV.bool q2) ∧ slotAt fr 6 = some (AV.str (List.drop 1 a0)))
      · intro call; simp [hl, s0, s4, s5, s6, s18, eu27, yeu27, ofBytes_length, bytesOf_ofBytes, stripL_bytes, cleanL_bytes, headOk_bytes, strs, minsA, minA, sliceA, buildSliceA, buildA, structPlaces, fillA, splice, bytesOf, aR_eq, aR_eq]; exact rfl
      · exact ⟨by simp [hl], by simp [hl, s0, s4, s5, s6, s18, eu27, yeu27, ofBytes_length, bytesOf_ofBytes, stripL_bytes, cleanL_bytes, headOk_bytes, strs, minsA, minA, sliceA, buildSliceA, buildA, structPlaces, fillA, splice, bytesOf, aR_eq, aR_eq], by simp [hl, s0, s4, s5, s6, s18, eu27, yeu27, ofBytes_length, bytesOf_ofBytes, stripL_bytes, cleanL_bytes, headOk_bytes, strs, minsA, minA, sliceA, buildSliceA, buildA, structPlaces, fillA, splice, bytesOf, aR_eq, aR_eq], by simp [hl, s0, s4, s5, s6, s18, eu27, yeu27, ofBytes_length, bytesOf_ofBytes, stripL_bytes, cleanL_bytes, headOk_bytes, strs, minsA, minA, sliceA, buildSliceA, buildA, structPlaces, fillA, splice, bytesOf, aR_eq, aR_eq], by simp [hl, s0, s4, s5, s6, s18, eu27, yeu27, ofBytes_length, bytesOf_ofBytes, stripL_bytes, cleanL_bytes, headOk_bytes, strs, minsA, minA, sliceA, buildSliceA, buildA, structPlaces, fillA, splice, bytesOf, aR_eq, aR_eq]⟩
      clear hl s0 s4 s5 s6 s18 fr
      rintro fr ⟨hl, s0, s4, s5, s6⟩
      exact ⟨_, List.drop 1 a0, rfl, hl, by simp [hl, s0, s4, s5, s6, ofBytes_length, bytesOf_ofBytes, stripL_bytes, cleanL_bytes, headOk_bytes, strs, minsA, minA, sliceA, buildSliceA, buildA, structPlaces, fillA, splice, bytesOf, aR_eq, aR_eq], by simp [hl, s0, s4, s5, s6, ofBytes_length, bytesOf_ofBytes, stripL_bytes, cleanL_bytes, headOk_bytes, strs, minsA, minA, sliceA, buildSliceA, buildA, structPlaces, fillA, splice, bytesOf, aR_eq, aR_eq], by simp [hl, s0, s4, s5, s6, ofBytes_length, bytesOf_ofBytes, stripL_bytes, cleanL_bytes, headOk_bytes, strs, minsA, minA, sliceA, buildSliceA, buildA, structPlaces, fillA, splice, bytesOf, aR_eq, aR_eq], by simp [hl, s0, s4, s5, s6, ofBytes_length, bytesOf_ofBytes, stripL_bytes, cleanL_bytes, headOk_bytes, strs, minsA, minA, sliceA, buildSliceA, buildA, structPlaces, fillA, splice, bytesOf, aR_eq, aR_eq], hg⟩
    · rw [if_neg (by rw [h_26]; simp)] at hg
      refine Ev.skip ?_
      exact ⟨_, a0, rfl, hl, by simp [hl, s0, s4, s5, s6, s18, ofBytes_length, bytesOf_ofBytes, stripL_bytes, cleanL_bytes, headOk_bytes, strs, minsA, minA, sliceA, buildSliceA, buildA, structPlaces, fillA, splice, bytesOf, aR_eq, aR_eq], by simp [hl, s0, s4, s5, s6, s18, ofBytes_length, bytesOf_ofBytes, stripL_bytes, cleanL_bytes, headOk_bytes, strs, minsA, minA, sliceA, buildSliceA, buildA, structPlaces, fillA, splice, bytesOf, aR_eq, aR_eq], by simp [hl, s0, s4, s5, s6, s18, ofBytes_length, bytesOf_ofBytes, stripL_bytes, cleanL_bytes, headOk_bytes, strs, minsA, minA, sliceA, buildSliceA, buildA, structPlaces, fillA, splice, bytesOf, aR_eq, aR_eq], by simp [hl, s0, s4, s5, s6, s18, ofBytes_length, bytesOf_ofBytes, stripL_bytes, cleanL_bytes, headOk_bytes, strs, minsA, minA, sliceA, buildSliceA, buildA, structPlaces, fillA, splice, bytesOf, aR_eq, aR_eq], hg⟩
  · clear hg hl s0 s4 s5 s6 fr
    rintro st ⟨fr, v4, rfl, hl, s0, s4, s5, s6, hg⟩
    unfold F78_j4 at hg
    refine Ev.seq ?_
    refine Ev.seq ?_
    refine Ev.region ?_
    refine EvOps.mono (Q := fun st => ∃ fr, st = ⟨fr, [], false⟩ ∧ fr.length = 67 ∧ slotAt fr 0 = some (AV.str a0) ∧ slotAt fr 4 = some (AV.int .i64 0) ∧ slotAt fr 5 = some (AV.bool q2) ∧ slotAt fr 6 = some (AV.str v4) ∧ slotAt fr 27 = some (AV.bool (((v4 == []) || decide (((List.length v4 : Int) : Int) > 19))))) ?_ ?_
    · refine EvOps.mid 7 (fun st => ∃ fr, st = ⟨fr, [], false⟩ ∧ fr.length = 67 ∧ slotAt fr 0 = some (AV.str a0) ∧ slotAt fr 4 = some (AV.int .i64 0) ∧ slotAt fr 5 = some (AV.bool q2) ∧ slotAt fr 6 = some (AV.str v4) ∧ slotAt fr 27 = some (AV.bool (((v4 == []) || decide (((List.length v4 : Int) : Int) > 19))))) ?_ ?_
      · refine EvOps.take 3 ?_
        apply EvOps.run
        · intro call; simp [hl, s0, s4, s5, s6, ofBytes_length, bytesOf_ofBytes, stripL_bytes, cleanL_bytes, headOk_bytes, strs, minsA, minA, sliceA, buildSliceA, buildA, structPlaces, fillA, splice, bytesOf, aR_eq, aR_eq]; exact rfl
        refine EvOps.gen (fun fr => fr.length = 67 ∧ slotAt fr 0 = some (AV.str a0) ∧ slotAt fr 4 = some (AV.int .i64 0) ∧ slotAt fr 5 = some (AV.bool q2) ∧ slotAt fr 6 = some (AV.str v4) ∧ slotAt fr 23 = some (AV.bool ((v4 == [])))) ⟨by simp [hl], by simp [hl, s0, s4, s5, s6, ofBytes_length, bytesOf_ofBytes, stripL_bytes, cleanL_bytes, headOk_bytes, strs, minsA, minA, sliceA, buildSliceA, buildA, structPlaces, fillA, splice, bytesOf, aR_eq, aR_eq], by simp [hl, s0, s4, s5, s6, ofBytes_length, bytesOf_ofBytes, stripL_bytes, cleanL_bytes, headOk_bytes, strs, minsA, minA, sliceA, buildSliceA, buildA, structPlaces, fillA, splice, bytesOf, aR_eq, aR_eq], by simp [hl, s0, s4, s5, s6, ofBytes_length, bytesOf_ofBytes, stripL_bytes, cleanL_bytes, headOk_bytes, strs, minsA, minA, sliceA, buildSliceA, buildA, structPlaces, fillA, splice, bytesOf, aR_eq, aR_eq], by simp [hl, s0, s4, s5, s6, ofBytes_length, bytesOf_ofBytes, stripL_bytes, cleanL_bytes, headOk_bytes, strs, minsA, minA, sliceA, buildSliceA, buildA, structPlaces, fillA, splice, bytesOf, aR_eq, aR_eq], by simp [hl, s0, s4, s5, s6, ofBytes_length, bytesOf_ofBytes, stripL_bytes, cleanL_bytes, headOk_bytes, strs, minsA, minA, sliceA, buildSliceA, buildA, structPlaces, fillA, splice, bytesOf, aR_eq, aR_eq]⟩ ?_
        clear hl s0 s4 s5 s6 fr
        rintro fr ⟨hl, s0, s4, s5, s6, s23⟩
        obtain ⟨w6, hw6⟩ : ∃ b : Bool, b = ((v4 == [])) := ⟨_, rfl⟩
        rw [← hw6] at s23
        cases w6 with
        | true =>
          apply EvOps.run
          · intro call; simp [hl, s0, s4, s5, s6, s23, ofBytes_length, bytesOf_ofBytes, stripL_bytes, cleanL_bytes, headOk_bytes, strs, minsA, minA, sliceA, buildSliceA, buildA, structPlaces, fillA, splice, bytesOf, aR_eq, aR_eq]; exact rfl
          exact ⟨_, rfl, by simp [hl], by simp [hl, s0, s4, s5, s6, s23, ofBytes_length, bytesOf_ofBytes, stripL_bytes, cleanL_bytes, headOk_bytes, strs, minsA, minA, sliceA, buildSliceA, buildA, structPlaces, fillA, splice, bytesOf, aR_eq, aR_eq], by simp [hl, s0, s4, s5, s6, s23, ofBytes_length, bytesOf_ofBytes, stripL_bytes, cleanL_bytes, headOk_bytes, strs, minsA, minA, sliceA, buildSliceA, buildA, structPlaces, fillA, splice, bytesOf, aR_eq, aR_eq], by first | (simp [hl, s0, s4, s5, s6, s23, ofBytes_length, bytesOf_ofBytes, stripL_bytes, cleanL_bytes, headOk_bytes, strs, minsA, minA, sliceA, buildSliceA, buildA, structPlaces, fillA, splice, bytesOf, aR_eq, aR_eq]; done) | ((try simp only [← hw6]); (first | done | simp [hl, s0, s4, s5, s6, s23, ofBytes_length, bytesOf_ofBytes, stripL_bytes, cleanL_bytes, headOk_bytes, strs, minsA, minA, sliceA, buildSliceA, buildA, structPlaces, fillA, splice, bytesOf, aR_eq, aR_eq])), by simp [hl, s0, s4, s5, s6, s23, ofBytes_length, bytesOf_ofBytes, stripL_bytes, cleanL_bytes, headOk_bytes, strs, minsA, minA, sliceA, buildSliceA, buildA, structPlaces, fillA, splice, bytesOf, aR_eq, aR_eq], by first | (simp [hl, s0, s4, s5, s6, s23, ofBytes_length, bytesOf_ofBytes, stripL_bytes, cleanL_bytes, headOk_bytes, strs, minsA, minA, sliceA, buildSliceA, buildA, structPlaces, fillA, splice, bytesOf, aR_eq, aR_eq]; done) | ((try simp only [← hw6]); (first | done | simp [hl, s0, s4, s5, s6, s23, ofBytes_length, bytesOf_ofBytes, stripL_bytes, cleanL_bytes, headOk_bytes, strs, minsA, minA, sliceA, buildSliceA, buildA, structPlaces, fillA, splice, bytesOf, aR_eq, aR_eq]))⟩
        | false =>
          apply EvOps.run
          · intro call; simp [hl, s0, s4, s5, s6, s23, ofBytes_length, bytesOf_ofBytes, stripL_bytes, cleanL_bytes, headOk_bytes, strs, minsA, minA, sliceA, buildSliceA, buildA, structPlaces, fillA, splice, bytesOf, aR_eq, aR_eq]; exact rfl
          exact ⟨_, rfl, by simp [hl], by simp [hl, s0, s4, s5, s6, s23, ofBytes_length, bytesOf_ofBytes, stripL_bytes, cleanL_bytes, headOk_bytes, strs, minsA, minA, sliceA, buildSliceA, buildA, structPlaces, fillA, splice, bytesOf, aR_eq, aR_eq], by simp [hl, s0, s4, s5, s6, s23, ofBytes_length, bytesOf_ofBytes, stripL_bytes, cleanL_bytes, headOk_bytes, strs, minsA, minA, sliceA, buildSliceA, buildA, structPlaces, fillA, splice, bytesOf, aR_eq, aR_eq], by first | (simp [hl, s0, s4, s5, s6, s23, ofBytes_length, bytesOf_ofBytes, stripL_bytes, cleanL_bytes, headOk_bytes, strs, minsA, minA, sliceA, buildSliceA, buildA, structPlaces, fillA, splice, bytesOf, aR_eq, aR_eq]; done) | ((try simp only [← hw6]); (first | done | simp [hl, s0, s4, s5, s6, s23, ofBytes_length, bytesOf_ofBytes, stripL_bytes, cleanL_bytes, headOk_bytes, strs, minsA, minA, sliceA, buildSliceA, buildA, structPlaces, fillA, splice, bytesOf, aR_eq, aR_eq])), by simp [hl, s0, s4, s5, s6, s23, ofBytes_length, bytesOf_ofBytes, stripL_bytes, cleanL_bytes, headOk_bytes, strs, minsA, minA, sliceA, buildSliceA, buildA, structPlaces, fillA, splice, bytesOf, aR_eq, aR_eq], by first | (simp [hl, s0, s4, s5, s6, s23, ofBytes_length, bytesOf_ofBytes, stripL_bytes, cleanL_bytes, headOk_bytes, strs, minsA, minA, sliceA, buildSliceA, buildA, structPlaces, fillA, splice, bytesOf, aR_eq, aR_eq]; done) | ((try simp only [← hw6]); (first | done | simp [hl, s0, s4, s5, s6, s23, ofBytes_length, bytesOf_ofBytes, stripL_bytes, cleanL_bytes, headOk_bytes, strs, minsA, minA, sliceA, buildSliceA, buildA, structPlaces, fillA, splice, bytesOf, aR_eq, aR_eq]))⟩
      · clear hl s0 s4 s5 s6 fr
        rintro st ⟨fr, rfl, hl, s0, s4, s5, s6, s27⟩
        exact EvOps.done ⟨_, rfl, by simp [hl], by simp [hl, s0, s4, s5, s6, s27, ofBytes_length, bytesOf_ofBytes, stripL_bytes, cleanL_bytes, headOk_bytes, strs, minsA, minA, sliceA, buildSliceA, buildA, structPlaces, fillA, splice, bytesOf, aR_eq, aR_eq], by simp [hl, s0, s4, s5, s6, s27, ofBytes_length, bytesOf_ofBytes, stripL_bytes, cleanL_bytes, headOk_bytes, strs, minsA, minA, sliceA, buildSliceA, buildA, structPlaces, fillA, splice, bytesOf, aR_eq, aR_eq], by simp [hl, s0, s4, s5, s6, s27, ofBytes_length, bytesOf_ofBytes, stripL_bytes, cleanL_bytes, headOk_bytes, strs, minsA, minA, sliceA, buildSliceA, buildA, structPlaces, fillA, splice, bytesOf, aR_eq, aR_eq], by simp [hl, s0, s4, s5, s6, s27, ofBytes_length, bytesOf_ofBytes, stripL_bytes, cleanL_bytes, headOk_bytes, strs, minsA, minA, sliceA, buildSliceA, buildA, structPlaces, fillA, splice, bytesOf, aR_eq, aR_eq], by simp [hl, s0, s4, s5, s6, s27, ofBytes_length, bytesOf_ofBytes, stripL_bytes, cleanL_bytes, headOk_bytes, strs, minsA, minA, sliceA, buildSliceA, buildA, structPlaces, fillA, splice, bytesOf, aR_eq, aR_eq]⟩
    clear hl s0 s4 s5 s6 fr
    rintro st ⟨fr, rfl, hl, s0, s4, s5, s6, s27⟩
    refine Ev.cond (((v4 == []) || decide (((List.length v4 : Int) : Int) > 19))) (by simp [hl, s0, s4, s5, s6, s27, ofBytes_length, bytesOf_ofBytes, stripL_bytes, cleanL_bytes, headOk_bytes, strs, minsA, minA, sliceA, buildSliceA, buildA, structPlaces, fillA, splice, bytesOf, aR_eq, aR_eq]) (fun h_7 => ?_) (fun h_7 => ?_)
    · rw [if_pos h_7] at hg
      refine Ev.seq ?_
      refine Ev.region ?_
      apply EvOps.keep (h' := []) (d' := false) (fun fr => fr.length = 67 ∧ slotAt fr 2 = some (AV.int .i64 0) ∧ slotAt fr 3 = some (AV.bool false))
      · intro call; simp [hl, s0, s4, s5, s6, s27, ofBytes_length, bytesOf_ofBytes, stripL_bytes, cleanL_bytes, headOk_bytes, strs, minsA, minA, sliceA, buildSliceA, buildA, structPlaces, fillA, splice, bytesOf, aR_eq, aR_eq]; exact rfl
      · exact ⟨by simp [hl], by simp [hl, s0, s4, s5, s6, s27, ofBytes_length, bytesOf_ofBytes, stripL_bytes, cleanL_bytes, headOk_bytes, strs, minsA, minA, sliceA, buildSliceA, buildA, structPlaces, fillA, splice, bytesOf, aR_eq, aR_eq], by simp [hl, s0, s4, s5, s6, s27, ofBytes_length, bytesOf_ofBytes, stripL_bytes, cleanL_bytes, headOk_bytes, strs, minsA, minA, sliceA, buildSliceA, buildA, structPlaces, fillA, splice, bytesOf, aR_eq, aR_eq]⟩
      clear hl s0 s4 s5 s6 s27 fr
      rintro fr ⟨hl, s2, s3⟩
      refine Ev.ret ?_
      have hs := Option.some.inj hg; subst hs
      exact ⟨AV.tuple [AV.int .i64 0, AV.bool false], by simp [Try.f78, hl, s2, s3, ofBytes_length, bytesOf_ofBytes, stripL_bytes, cleanL_bytes, headOk_bytes, strs, minsA, minA, sliceA, buildSliceA, buildA, structPlaces, fillA, splice, bytesOf, aR_eq, aR_eq] <;> exact rfl, by simp [strs, aR_eq, aR_eq]⟩
    · rw [if_neg (by rw [h_7]; simp)] at hg
      refine Ev.skip ?_
      refine Ev.seq ?_
      refine Ev.seq ?_
      refine Ev.region ?_
      apply EvOps.keep (h' := []) (d' := false) (fun fr => fr.length = 67 ∧ slotAt fr 0 = some (AV.str a0) ∧ slotAt fr 4 = some (AV.int .i64 0) ∧ slotAt fr 5 = some (AV.bool q2) ∧ slotAt fr 6 = some (AV.str v4) ∧ slotAt fr 29 = some (AV.int .i64 ((List.length v4 : Int))) ∧ slotAt fr 30 = some (AV.int .i64 0))
      · intro call; simp [hl, s0, s4, s5, s6, s27, ofBytes_length, bytesOf_ofBytes, stripL_bytes, cleanL_bytes, headOk_bytes, strs, minsA, minA, sliceA, buildSliceA, buildA, structPlaces, fillA, splice, bytesOf, aR_eq, aR_eq]; exact rfl
      · exact ⟨by simp [hl], by simp [hl, s0, s4, s5, s6, s27, ofBytes_length, bytesOf_ofBytes, stripL_bytes, cleanL_bytes, headOk_bytes, strs, minsA, minA, sliceA, buildSliceA, buildA, structPlaces, fillA, splice, bytesOf, aR_eq, aR_eq], by simp [hl, s0, s4, s5, s6, s27, ofBytes_length, bytesOf_ofBytes, stripL_bytes, cleanL_bytes, headOk_bytes, strs, minsA, minA, sliceA, buildSliceA, buildA, structPlaces, fillA, splice, bytesOf, aR_eq, aR_eq], by simp [hl, s0, s4, s5, s6, s27, ofBytes_length, bytesOf_ofBytes, stripL_bytes, cleanL_bytes, headOk_bytes, strs, minsA, minA, sliceA, buildSliceA, buildA, structPlaces, fillA, splice, bytesOf, aR_eq, aR_eq], by simp [hl, s0, s4, s5, s6, s27, ofBytes_length, bytesOf_ofBytes, stripL_bytes, cleanL_bytes, headOk_bytes, strs, minsA, minA, sliceA, buildSliceA, buildA, structPlaces, fillA, splice, bytesOf, aR_eq, aR_eq], by simp [hl, s0, s4, s5, s6, s27, ofBytes_length, bytesOf_ofBytes, stripL_bytes, cleanL_bytes, headOk_bytes, strs, minsA, minA, sliceA, buildSliceA, buildA, structPlaces, fillA, splice, bytesOf, aR_eq, aR_eq], by simp [hl, s0, s4, s5, s6, s27, ofBytes_length, bytesOf_ofBytes, stripL_bytes, cleanL_bytes, headOk_bytes, strs, minsA, minA, sliceA, buildSliceA, buildA, structPlaces, fillA, splice, bytesOf, aR_eq, aR_eq]⟩
      clear hl s0 s4 s5 s6 s27 fr
      rintro fr ⟨hl, s0, s4, s5, s6, s29, s30⟩
      refine Ev.block ?_
      obtain ⟨o19, eo19, hg⟩ := bind_some hg
      refine Ev.loopJ (fun x st => (x = .exit 0 ∧ ∃ (fr : List AV) (v11 : Int), st = ⟨fr, [], false⟩ ∧ fr.length = 67 ∧ slotAt fr 0 = some (AV.str a0) ∧ slotAt fr 4 = some (AV.int .i64 v11) ∧ slotAt fr 5 = some (AV.bool q2) ∧ o19 = (Sum.inl v11)) ∨ (x = .ret ∧ ∃ (fr : List AV) (v12 : Int) (v13 : Bool), st = ⟨fr, [], false⟩ ∧ fr.length = 67 ∧ slotAt fr 2 = some (AV.int .i64 v12) ∧ slotAt fr 3 = some (AV.bool v13) ∧ o19 = (Sum.inr (v12, v13)))) (fun m st => ∃ (fr : List AV) (v8 : Int) (v9 : Int), st = ⟨fr, [], false⟩ ∧ fr.length = 67 ∧ slotAt fr 0 = some (AV.str a0) ∧ slotAt fr 4 = some (AV.int .i64 v8) ∧ slotAt fr 5 = some (AV.bool q2) ∧ slotAt fr 6 = some (AV.str v4) ∧ slotAt fr 29 = some (AV.int .i64 ((List.length v4 : Int))) ∧ slotAt fr 30 = some (AV.int .i64 v9) ∧ F78_l9 k v4 m (v8, v9) = some o19) k _ ?_ ?_ ?_
      · exact ⟨_, 0, 0, rfl, hl, by simp [hl, s0, s4, s5, s6, s29, s30, ofBytes_length, bytesOf_ofBytes, stripL_bytes, cleanL_bytes, headOk_bytes, strs, minsA, minA, sliceA, buildSliceA, buildA, structPlaces, fillA, splice, bytesOf, aR_eq, aR_eq], by simp [hl, s0, s4, s5, s6, s29, s30, ofBytes_length, bytesOf_ofBytes, stripL_bytes, cleanL_bytes, headOk_bytes, strs, minsA, minA, sliceA, buildSliceA, buildA, structPlaces, fillA, splice, bytesOf, aR_eq, aR_eq], by simp [hl, s0, s4, s5, s6, s29, s30, ofBytes_length, bytesOf_ofBytes, stripL_bytes, cleanL_bytes, headOk_bytes, strs, minsA, minA, sliceA, buildSliceA, buildA, structPlaces, fillA, splice, bytesOf, aR_eq, aR_eq], by simp [hl, s0, s4, s5, s6, s29, s30, ofBytes_length, bytesOf_ofBytes, stripL_bytes, cleanL_bytes, headOk_bytes, strs, minsA, minA, sliceA, buildSliceA, buildA, structPlaces, fillA, splice, bytesOf, aR_eq, aR_eq], by simp [hl, s0, s4, s5, s6, s29, s30, ofBytes_length, bytesOf_ofBytes, stripL_bytes, cleanL_bytes, headOk_bytes, strs, minsA, minA, sliceA, buildSliceA, buildA, structPlaces, fillA, splice, bytesOf, aR_eq, aR_eq], by simp [hl, s0, s4, s5, s6, s29, s30, ofBytes_length, bytesOf_ofBytes, stripL_bytes, cleanL_bytes, headOk_bytes, strs, minsA, minA, sliceA, buildSliceA, buildA, structPlaces, fillA, splice, bytesOf, aR_eq, aR_eq], eo19⟩
      · clear hg eo19 hl s0 s4 s5 s6 s29 s30 fr
        rintro m st ⟨fr, v8, v9, rfl, hl, s0, s4, s5, s6, s29, s30, hg⟩
        cases m with
        | zero => simp [F78_l9] at hg
        | succ m =>
        rw [F78_l9] at hg
        obtain ⟨s, hb, hstep⟩ := bind_some hg
        clear hg
        have hg := hb; clear hb
        unfold F78_l9_b at hg
        try dsimp only at hg
        refine Ev.seq ?_
        refine Ev.region ?_
        apply EvOps.keep (h' := []) (d' := false) (fun fr => fr.length = 67 ∧ slotAt fr 0 = some (AV.str a0) ∧ slotAt fr 4 = some (AV.int .i64 v8) ∧ slotAt fr 5 = some (AV.bool q2) ∧ slotAt fr 6 = some (AV.str v4) ∧ slotAt fr 29 = some (AV.int .i64 ((List.length v4 : Int))) ∧ slotAt fr 30 = some (AV.int .i64 v9) ∧ slotAt fr 31 = some (AV.bool (decide ((v9 : Int) < (List.length v4 : Int)))))
        · intro call; simp [hl, s0, s4, s5, s6, s29, s30, ofBytes_length, bytesOf_ofBytes, stripL_bytes, cleanL_bytes, headOk_bytes, strs, minsA, minA, sliceA, buildSliceA, buildA, structPlaces, fillA, splice, bytesOf, aR_eq, aR_eq]; exact rfl
        · exact ⟨by simp [hl], by simp [hl, s0, s4, s5, s6, s29, s30, ofBytes_length, bytesOf_ofBytes, stripL_bytes, cleanL_bytes, headOk_bytes, strs, minsA, minA, sliceA, buildSliceA, buildA, structPlaces, fillA, splice, bytesOf, aR_eq, aR_eq], by simp [hl, s0, s4, s5, s6, s29, s30, ofBytes_length, bytesOf_ofBytes, stripL_bytes, cleanL_bytes, headOk_bytes, strs, minsA, minA, sliceA, buildSliceA, buildA, structPlaces, fillA, splice, bytesOf, aR_eq, aR_eq], by simp [hl, s0, s4, s5, s6, s29, s30, ofBytes_length, bytesOf_ofBytes, stripL_bytes, cleanL_bytes, headOk_bytes, strs, minsA, minA, sliceA, buildSliceA, buildA, structPlaces, fillA, splice, bytesOf, aR_eq, aR_eq], by simp [hl, s0, s4, s5, s6, s29, s30, ofBytes_length, bytesOf_ofBytes, stripL_bytes, cleanL_bytes, headOk_bytes, strs, minsA, minA, sliceA, buildSliceA, buildA, structPlaces, fillA, splice, bytesOf, aR_eq, aR_eq], by simp [hl, s0, s4, s5, s6, s29, s30, ofBytes_length, bytesOf_ofBytes, stripL_bytes, cleanL_bytes, headOk_bytes, strs, minsA, minA, sliceA, buildSliceA, buildA, structPlaces, fillA, splice, bytesOf, aR_eq, aR_eq], by simp [hl, s0, s4, s5, s6, s29, s30, ofBytes_length, bytesOf_ofBytes, stripL_bytes, cleanL_bytes, headOk_bytes, strs, minsA, minA, sliceA, buildSliceA, buildA, structPlaces, fillA, splice, bytesOf, aR_eq, aR_eq], by simp [hl, s0, s4, s5, s6, s29, s30, ofBytes_length, bytesOf_ofBytes, stripL_bytes, cleanL_bytes, headOk_bytes, strs, minsA, minA, sliceA, buildSliceA, buildA, structPlaces, fillA, splice, bytesOf, aR_eq, aR_eq]⟩
        clear hl s0 s4 s5 s6 s29 s30 fr
        rintro fr ⟨hl, s0, s4, s5, s6, s29, s30, s31⟩
        refine Ev.seq ?_
        refine Ev.cond (decide ((v9 : Int) < (List.length v4 : Int))) (by simp [hl, s0, s4, s5, s6, s29, s30, s31, ofBytes_length, bytesOf_ofBytes, stripL_bytes, cleanL_bytes, headOk_bytes, strs, minsA, minA, sliceA, buildSliceA, buildA, structPlaces, fillA, splice, bytesOf, aR_eq, aR_eq]) (fun h_14 => ?_) (fun h_14 => ?_)
        · rw [if_pos h_14] at hg
          refine Ev.skip ?_
          refine Ev.seq ?_
          refine Ev.block ?_
          refine Ev.seq ?_
          refine Ev.region ?_
          apply EvOps.keep (h' := []) (d' := false) (fun fr => fr.length = 67 ∧ slotAt fr 0 = some (AV.str a0) ∧ slotAt fr 4 = some (AV.int .i64 v8) ∧ slotAt fr 5 = some (AV.bool q2) ∧ slotAt fr 6 = some (AV.str v4) ∧ slotAt fr 7 = some (AV.int .i64 v9) ∧ slotAt fr 29 = some (AV.int .i64 ((List.length v4 : Int))) ∧ slotAt fr 30 = some (AV.int .i64 v9))
          · intro call; simp [hl, s0, s4, s5, s6, s29, s30, s31, ofBytes_length, bytesOf_ofBytes, stripL_bytes, cleanL_bytes, headOk_bytes, strs, minsA, minA, sliceA, buildSliceA, buildA, structPlaces, fillA, splice, bytesOf, aR_eq, aR_eq]; exact rfl
          · exact ⟨by simp [hl], by simp [hl, s0, s4, s5, s6, s29, s30, s31, ofBytes_length, bytesOf_ofBytes, stripL_bytes, cleanL_bytes, headOk_bytes, strs, minsA, minA, sliceA, buildSliceA, buildA, structPlaces, fillA, splice, bytesOf, aR_eq, aR_eq], by simp [hl, s0, s4, s5, s6, s29, s30, s31, ofBytes_length, bytesOf_ofBytes, stripL_bytes, cleanL_bytes, headOk_bytes, strs, minsA, minA, sliceA, buildSliceA, buildA, structPlaces, fillA, splice, bytesOf, aR_eq, aR_eq], by simp [hl, s0, s4, s5, s6, s29, s30, s31, ofBytes_length, bytesOf_ofBytes, stripL_bytes, cleanL_bytes, headOk_bytes, strs, minsA, minA, sliceA, buildSliceA, buildA, structPlaces, fillA, splice, bytesOf, aR_eq, aR_eq], by simp [hl, s0, s4, s5, s6, s29, s30, s31, ofBytes_length, bytesOf_ofBytes, stripL_bytes, cleanL_bytes, headOk_bytes, strs, minsA, minA, sliceA, buildSliceA, buildA, structPlaces, fillA, splice, bytesOf, aR_eq, aR_eq], by simp [hl, s0, s4, s5, s6, s29, s30, s31, ofBytes_length, bytesOf_ofBytes, stripL_bytes, cleanL_bytes, headOk_bytes, strs, minsA, minA, sliceA, buildSliceA, buildA, structPlaces, fillA, splice, bytesOf, aR_eq, aR_eq], by simp [hl, s0, s4, s5, s6, s29, s30, s31, ofBytes_length, bytesOf_ofBytes, stripL_bytes, cleanL_bytes, headOk_bytes, strs, minsA, minA, sliceA, buildSliceA, buildA, structPlaces, fillA, splice, bytesOf, aR_eq, aR_eq], by simp [hl, s0, s4, s5, s6, s29, s30, s31, ofBytes_length, bytesOf_ofBytes, stripL_bytes, cleanL_bytes, headOk_bytes, strs, minsA, minA, sliceA, buildSliceA, buildA, structPlaces, fillA, splice, bytesOf, aR_eq, aR_eq]⟩
          clear hl s0 s4 s5 s6 s29 s30 s31 fr
          rintro fr ⟨hl, s0, s4, s5, s6, s7, s29, s30⟩
          refine Ev.seq ?_
          refine Ev.region ?_
          obtain ⟨c15, ec15, hg⟩ := bind_some hg
          obtain ⟨ec15a, ec15b, ec15c, ec15d⟩ := getAt_some ec15
          have yec15b := ec15b
          try simp at yec15b
          have yec15d := ec15d
          try simp at yec15d
          apply EvOps.keep (h' := []) (d' := false) (fun fr => fr.length = 67 ∧ slotAt fr 0 = some (AV.str a0) ∧ slotAt fr 4 = some (AV.int .i64 v8) ∧ slotAt fr 5 = some (AV.bool q2) ∧ slotAt fr 6 = some (AV.str v4) ∧ slotAt fr 8 = some (AV.int .i64 (IntKind.wrap .i64 ((IntKind.wrap .i64 ((c15.toNat : Int))) - (48 : Int)))) ∧ slotAt fr 29 = some (AV.int .i64 ((List.length v4 : Int))) ∧ slotAt fr 30 = some (AV.int .i64 v9))
          · intro call; simp [hl, s0, s4, s5, s6, s7, s29, s30, ec15a, ec15b, ec15c, ec15d, yec15b, yec15d, ofBytes_length, bytesOf_ofBytes, stripL_bytes, cleanL_bytes, headOk_bytes, strs, minsA, minA, sliceA, buildSliceA, buildA, structPlaces, fillA, splice, bytesOf, aR_eq, aR_eq]; exact rfl
          · exact ⟨by simp [hl], by simp [hl, s0, s4, s5, s6, s7, s29, s30, ec15a, ec15b, ec15c, ec15d, yec15b, yec15d, ofBytes_length, bytesOf_ofBytes, stripL_bytes, cleanL_bytes, headOk_bytes, strs, minsA, minA, sliceA, buildSliceA, buildA, structPlaces, fillA, splice, bytesOf, aR_eq, aR_eq], by simp [hl, s0, s4, s5, s6, s7, s29, s30, ec15a, ec15b, ec15c, ec15d, yec15b, yec15d, ofBytes_length, bytesOf_ofBytes, stripL_bytes, cleanL_bytes, headOk_bytes, strs, minsA, minA, sliceA, buildSliceA, buildA, structPlaces, fillA, splice, bytesOf, aR_eq, aR_eq], by simp [hl, s0, s4, s5, s6, s7, s29, s30, ec15a, ec15b, ec15c, ec15d, yec15b, yec15d, ofBytes_length, bytesOf_ofBytes, stripL_bytes, cleanL_bytes, headOk_bytes, strs, minsA, minA, sliceA, buildSliceA, buildA, structPlaces, fillA, splice, bytesOf, aR_eq, aR_eq], by simp [hl, s0, s4, s5, s6, s7, s29, s30, ec15a, ec15b, ec15c, ec15d, yec15b, yec15d, ofBytes_length, bytesOf_ofBytes, stripL_bytes, cleanL_bytes, headOk_bytes, strs, minsA, minA, sliceA, buildSliceA, buildA, structPlaces, fillA, splice, bytesOf, aR_eq, aR_eq], by simp [hl, s0, s4, s5, s6, s7, s29, s30, ec15a, ec15b, ec15c, ec15d, yec15b, yec15d, ofBytes_length, bytesOf_ofBytes, stripL_bytes, cleanL_bytes, headOk_bytes, strs, minsA, minA, sliceA, buildSliceA, buildA, structPlaces, fillA, splice, bytesOf, aR_eq, aR_eq], by simp [hl, s0, s4, s5, s6, s7, s29, s30, ec15a, ec15b, ec15c, ec15d, yec15b, yec15d, ofBytes_length, bytesOf_ofBytes, stripL_bytes, cleanL_bytes, headOk_bytes, strs, minsA, minA, sliceA, buildSliceA, buildA, structPlaces, fillA, splice, bytesOf, aR_eq, aR_eq], by simp [hl, s0, s4, s5, s6, s7, s29, s30, ec15a, ec15b, ec15c, ec15d, yec15b, yec15d, ofBytes_length, bytesOf_ofBytes, stripL_bytes, cleanL_bytes, headOk_bytes, strs, minsA, minA, sliceA, buildSliceA, buildA, structPlaces, fillA, splice, bytesOf, aR_eq, aR_eq]⟩
          clear hl s0 s4 s5 s6 s7 s29 s30 fr
          rintro fr ⟨hl, s0, s4, s5, s6, s8, s29, s30⟩
          refine Ev.seq ?_
          refine Ev.seq ?_
          refine Ev.region ?_
          refine EvOps.mono (Q := fun st => ∃ fr, st = ⟨fr, [], false⟩ ∧ fr.length = 67 ∧ slotAt fr 0 = some (AV.str a0) ∧ slotAt fr 4 = some (AV.int .i64 v8) ∧ slotAt fr 5 = some (AV.bool q2) ∧ slotAt fr 6 = some (AV.str v4) ∧ slotAt fr 8 = some (AV.int .i64 (IntKind.wrap .i64 ((IntKind.wrap .i64 ((c15.toNat : Int))) - (48 : Int)))) ∧ slotAt fr 29 = some (AV.int .i64 ((List.length v4 : Int))) ∧ slotAt fr 30 = some (AV.int .i64 v9) ∧ slotAt fr 50 = some (AV.bool (((decide ((IntKind.wrap .i64 ((IntKind.wrap .i64 ((c15.toNat : Int))) - (48 : Int)) : Int) < 0) || decide ((IntKind.wrap .i64 ((IntKind.wrap .i64 ((c15.toNat : Int))) - (48 : Int)) : Int) > 9)) || decide ((v8 : Int) < IntKind.wrap .i64 (Int.tdiv (IntKind.wrap .i64 (((-9223372036854775808) : Int) + (IntKind.wrap .i64 ((IntKind.wrap .i64 ((c15.toNat : Int))) - (48 : Int))))) (10 : Int))))))) ?_ ?_
          · refine EvOps.mid 6 (fun st => ∃ fr, st = ⟨fr, [], false⟩ ∧ fr.length = 67 ∧ slotAt fr 0 = some (AV.str a0) ∧ slotAt fr 4 = some (AV.int .i64 v8) ∧ slotAt fr 5 = some (AV.bool q2) ∧ slotAt fr 6 = some (AV.str v4) ∧ slotAt fr 8 = some (AV.int .i64 (IntKind.wrap .i64 ((IntKind.wrap .i64 ((c15.toNat : Int))) - (48 : Int)))) ∧ slotAt fr 29 = some (AV.int .i64 ((List.length v4 : Int))) ∧ slotAt fr 30 = some (AV.int .i64 v9) ∧ slotAt fr 43 = some (AV.bool ((decide ((IntKind.wrap .i64 ((IntKind.wrap .i64 ((c15.toNat : Int))) - (48 : Int)) : Int) < 0) || decide ((IntKind.wrap .i64 ((IntKind.wrap .i64 ((c15.toNat : Int))) - (48 : Int)) : Int) > 9))))) ?_ ?_
            · refine EvOps.take 3 ?_
              apply EvOps.run
              · intro call; simp [hl, s0, s4, s5, s6, s8, s29, s30, ofBytes_length, bytesOf_ofBytes, stripL_bytes, cleanL_bytes, headOk_bytes, strs, minsA, minA, sliceA, buildSliceA, buildA, structPlaces, fillA, splice, bytesOf, aR_eq, aR_eq]; exact rfl
              refine EvOps.gen (fun fr => fr.length = 67 ∧ slotAt fr 0 = some (AV.str a0) ∧ slotAt fr 4 = some (AV.int .i64 v8) ∧ slotAt fr 5 = some (AV.bool q2) ∧ slotAt fr 6 = some (AV.str v4) ∧ slotAt fr 8 = some (AV.int .i64 (IntKind.wrap .i64 ((IntKind.wrap .i64 ((c15.toNat : Int))) - (48 : Int)))) ∧ slotAt fr 29 = some (AV.int .i64 ((List.length v4 : Int))) ∧ slotAt fr 30 = some (AV.int .i64 v9) ∧ slotAt fr 40 = some (AV.bool (decide ((IntKind.wrap .i64 ((IntKind.wrap .i64 ((c15.toNat : Int))) - (48 : Int)) : Int) < 0)))) ⟨by simp [hl], by simp [hl, s0, s4, s5, s6, s8, s29, s30, ofBytes_length, bytesOf_ofBytes, stripL_bytes, cleanL_bytes, headOk_bytes, strs, minsA, minA, sliceA, buildSliceA, buildA, structPlaces, fillA, splice, bytesOf, aR_eq, aR_eq], by simp [hl, s0, s4, s5, s6, s8, s29, s30, ofBytes_length, bytesOf_ofBytes, stripL_bytes, cleanL_bytes, headOk_bytes, strs, minsA, minA, sliceA, buildSliceA, buildA, structPlaces, fillA, splice, bytesOf, aR_eq, aR_eq], by simp [hl, s0, s4, s5, s6, s8, s29, s30, ofBytes_length, bytesOf_ofBytes, stripL_bytes, cleanL_bytes, headOk_bytes, strs, minsA, minA, sliceA, buildSliceA, buildA, structPlaces, fillA, splice, bytesOf, aR_eq, aR_eq], by simp [hl, s0, s4, s5, s6, s8, s29, s30, ofBytes_length, bytesOf_ofBytes, stripL_bytes, cleanL_bytes, headOk_bytes, strs, minsA, minA, sliceA, buildSliceA, buildA, structPlaces, fillA, splice, bytesOf, aR_eq, aR_eq], by simp [hl, s0, s4, s5, s6, s8, s29, s30, ofBytes_length, bytesOf_ofBytes, stripL_bytes, cleanL_bytes, headOk_bytes, strs, minsA, minA, sliceA, buildSliceA, buildA, structPlaces, fillA, splice, bytesOf, aR_eq, aR_eq], by simp [hl, s0, s4, s5, s6, s8, s29, s30, ofBytes_length, bytesOf_ofBytes, stripL_bytes, cleanL_bytes, headOk_bytes, strs, minsA, minA, sliceA, buildSliceA, buildA, structPlaces, fillA, splice, bytesOf, aR_eq, aR_eq], by simp [hl, s0, s4, s5, s6, s8, s29, s30, ofBytes_length, bytesOf_ofBytes, stripL_bytes, cleanL_bytes, headOk_bytes, strs, minsA, minA, sliceA, buildSliceA, buildA, structPlaces, fillA, splice, bytesOf, aR_eq, aR_eq], by simp [hl, s0, s4, s5, s6, s8, s29, s30, ofBytes_length, bytesOf_ofBytes, stripL_bytes, cleanL_bytes, headOk_bytes, strs, minsA, minA, sliceA, buildSliceA, buildA, structPlaces, fillA, splice, bytesOf, aR_eq, aR_eq]⟩ ?_
              clear hl s0 s4 s5 s6 s8 s29 s30 fr
              rintro fr ⟨hl, s0, s4, s5, s6, s8, s29, s30, s40⟩
              obtain ⟨w16, hw16⟩ : ∃ b : Bool, b = (decide ((IntKind.wrap .i64 ((IntKind.wrap .i64 ((c15.toNat : Int))) - (48 : Int)) : Int) < 0)) := ⟨_, rfl⟩
              rw [← hw16] at s40
              cases w16 with
              | true =>
                apply EvOps.run
                · intro call; simp [hl, s0, s4, s5, s6, s8, s29, s30, s40, ofBytes_length, bytesOf_ofBytes, stripL_bytes, cleanL_bytes, headOk_bytes, strs, minsA, minA, sliceA, buildSliceA, buildA, structPlaces, fillA, splice, bytesOf, aR_eq, aR_eq]; exact rfl
                exact ⟨_, rfl, by simp [hl], by simp [hl, s0, s4, s5, s6, s8, s29, s30, s40, ofBytes_length, bytesOf_ofBytes, stripL_bytes, cleanL_bytes, headOk_bytes, strs, minsA, minA, sliceA, buildSliceA, buildA, structPlaces, fillA, splice, bytesOf, aR_eq, aR_eq], by simp [hl, s0, s4, s5, s6, s8, s29, s30, s40, ofBytes_length, bytesOf_ofBytes, stripL_bytes, cleanL_bytes, headOk_bytes, strs, minsA, minA, sliceA, buildSliceA, buildA, structPlaces, fillA, splice, bytesOf, aR_eq, aR_eq], by first | (simp [hl, s0, s4, s5, s6, s8, s29, s30, s40, ofBytes_length, bytesOf_ofBytes, stripL_bytes, cleanL_bytes, headOk_bytes, strs, minsA, minA, sliceA, buildSliceA, buildA, structPlaces, fillA, splice, bytesOf, aR_eq, aR_eq]; done) | ((try simp only [← hw16]); (first | done | simp [hl, s0, s4, s5, s6, s8, s29, s30, s40, ofBytes_length, bytesOf_ofBytes, stripL_bytes, cleanL_bytes, headOk_bytes, strs, minsA, minA, sliceA, buildSliceA, buildA, structPlaces, fillA, splice, bytesOf, aR_eq, aR_eq])), by simp [hl, s0, s4, s5, s6, s8, s29, s30, s40, ofBytes_length, bytesOf_ofBytes, stripL_bytes, cleanL_bytes, headOk_bytes, strs, minsA, minA, sliceA, buildSliceA, buildA, structPlaces, fillA, splice, bytesOf, aR_eq, aR_eq], by simp [hl, s0, s4, s5, s6, s8, s29, s30, s40, ofBytes_length, bytesOf_ofBytes, stripL_bytes, cleanL_bytes, headOk_bytes, strs, minsA, minA, sliceA, buildSliceA, buildA, structPlaces, fillA, splice, bytesOf, aR_eq, aR_eq], by simp [hl, s0, s4, s5, s6, s8, s29, s30, s40, ofBytes_length, bytesOf_ofBytes, stripL_bytes, cleanL_bytes, headOk_bytes, strs, minsA, minA, sliceA, buildSliceA, buildA, structPlaces, fillA, splice, bytesOf, aR_eq, aR_eq], by simp [hl, s0, s4, s5, s6, s8, s29, s30, s40, ofBytes_length, bytesOf_ofBytes, stripL_bytes, cleanL_bytes, headOk_bytes, strs, minsA, minA, sliceA, buildSliceA, buildA, structPlaces, fillA, splice, bytesOf, aR_eq, aR_eq], by first | (simp [hl, s0, s4, s5, s6, s8, s29, s30, s40, ofBytes_length, bytesOf_ofBytes, stripL_bytes, cleanL_bytes, headOk_bytes, strs, minsA, minA, sliceA, buildSliceA, buildA, structPlaces, fillA, splice, bytesOf, aR_eq, aR_eq]; done) | ((try simp only [← hw16]); (first | done | simp [hl, s0, s4, s5, s6, s8, s29, s30, s40, ofBytes_length, bytesOf_ofBytes, stripL_bytes, cleanL_bytes, headOk_bytes, strs, minsA, minA, sliceA, buildSliceA, buildA, structPlaces, fillA, splice, bytesOf, aR_eq, aR_eq]))⟩
              | false =>
                apply EvOps.run
                · intro call; simp [hl, s0, s4, s5, s6, s8, s29, s30, s40, ofBytes_length, bytesOf_ofBytes, stripL_bytes, cleanL_bytes, headOk_bytes, strs, minsA, minA, sliceA, buildSliceA, buildA, structPlaces, fillA, splice, bytesOf, aR_eq, aR_eq]; exact rfl
                exact ⟨_, rfl, by simp [hl], by simp [hl, s0, s4, s5, s6, s8, s29, s30, s40, ofBytes_length, bytesOf_ofBytes, stripL_bytes, cleanL_bytes, headOk_bytes, strs, minsA, minA, sliceA, buildSliceA, buildA, structPlaces, fillA, splice, bytesOf, aR_eq, aR_eq], by simp [hl, s0, s4, s5, s6, s8, s29, s30, s40, ofBytes_length, bytesOf_ofBytes, stripL_bytes, cleanL_bytes, headOk_bytes, strs, minsA, minA, sliceA, buildSliceA, buildA, structPlaces, fillA, splice, bytesOf, aR_eq, aR_eq], by first | (simp [hl, s0, s4, s5, s6, s8, s29, s30, s40, ofBytes_length, bytesOf_ofBytes, stripL_bytes, cleanL_bytes, headOk_bytes, strs, minsA, minA, sliceA, buildSliceA, buildA, structPlaces, fillA, splice, bytesOf, aR_eq, aR_eq]; done) | ((try simp only [← hw16]); (first | done | simp [hl, s0, s4, s5, s6, s8, s29, s30, s40, ofBytes_length, bytesOf_ofBytes, stripL_bytes, cleanL_bytes, headOk_bytes, strs, minsA, minA, sliceA, buildSliceA, buildA, structPlaces, fillA, splice, bytesOf, aR_eq, aR_eq])), by simp [hl, s0, s4, s5, s6, s8, s29, s30, s40, ofBytes_length, bytesOf_ofBytes, stripL_bytes, cleanL_bytes, headOk_bytes, strs, minsA, minA, sliceA, buildSliceA, buildA, structPlaces, fillA, splice, bytesOf, aR_eq, aR_eq], by simp [hl, s0, s4, s5, s6, s8, s29, s30, s40, ofBytes_length, bytesOf_ofBytes, stripL_bytes, cleanL_bytes, headOk_bytes, strs, minsA, minA, sliceA, buildSliceA, buildA, structPlaces, fillA, splice, bytesOf, aR_eq, aR_eq], by simp [hl, s0, s4, s5, s6, s8, s29, s30, s40, ofBytes_length, bytesOf_ofBytes, stripL_bytes, cleanL_bytes, headOk_bytes, strs, minsA, minA, sliceA, buildSliceA, buildA, structPlaces, fillA, splice, bytesOf, aR_eq, aR_eq], by simp [hl, s0, s4, s5, s6, s8, s29, s30, s40, ofBytes_length, bytesOf_ofBytes, stripL_bytes, cleanL_bytes, headOk_bytes, strs, minsA, minA, sliceA, buildSliceA, buildA, structPlaces, fillA, splice, bytesOf, aR_eq, aR_eq], by first | (simp [hl, s0, s4, s5, s6, s8, s29, s30, s40, ofBytes_length, bytesOf_ofBytes, stripL_bytes, cleanL_bytes, headOk_bytes, strs, minsA, minA, sliceA, buildSliceA, buildA, structPlaces, fillA, splice, bytesOf, aR_eq, aR_eq]; done) | ((try simp only [← hw16]); (first | done | simp [hl, s0, s4, s5, s6, s8, s29, s30, s40, ofBytes_length, bytesOf_ofBytes, stripL_bytes, cleanL_bytes, headOk_bytes, strs, minsA, minA, sliceA, buildSliceA, buildA, structPlaces, fillA, splice, bytesOf, aR_eq, aR_eq]))⟩
            · clear hl s0 s4 s5 s6 s8 s29 s30 fr
              rintro st ⟨fr, rfl, hl, s0, s4, s5, s6, s8, s29, s30, s43⟩
              refine EvOps.mid 7 (fun st => ∃ fr, st = ⟨fr, [], false⟩ ∧ fr.length = 67 ∧ slotAt fr 0 = some (AV.str a0) ∧ slotAt fr 4 = some (AV.int .i64 v8) ∧ slotAt fr 5 = some (AV.bool q2) ∧ slotAt fr 6 = some (AV.str v4) ∧ slotAt fr 8 = some (AV.int .i64 (IntKind.wrap .i64 ((IntKind.wrap .i64 ((c15.toNat : Int))) - (48 : Int)))) ∧ slotAt fr 29 = some (AV.int .i64 ((List.length v4 : Int))) ∧ slotAt fr 30 = some (AV.int .i64 v9) ∧ slotAt fr 50 = some (AV.bool (((decide ((IntKind.wrap .i64 ((IntKind.wrap .i64 ((c15.toNat : Int))) - (48 : Int)) : Int) < 0) || decide ((IntKind.wrap .i64 ((IntKind.wrap .i64 ((c15.toNat : Int))) - (48 : Int)) : Int) > 9)) || decide ((v8 : Int) < IntKind.wrap .i64 (Int.tdiv (IntKind.wrap .i64 (((-9223372036854775808) : Int) + (IntKind.wrap .i64 ((IntKind.wrap .i64 ((c15.toNat : Int))) - (48 : Int))))) (10 : Int))))))) ?_ ?_
              · refine EvOps.take 1 ?_
                apply EvOps.run
                · intro call; simp [hl, s0, s4, s5, s6, s8, s29, s30, s43, ofBytes_length, bytesOf_ofBytes, stripL_bytes, cleanL_bytes, headOk_bytes, strs, minsA, minA, sliceA, buildSliceA, buildA, structPlaces, fillA, splice, bytesOf, aR_eq, aR_eq]; exact rfl
                refine EvOps.gen (fun fr => fr.length = 67 ∧ slotAt fr 0 = some (AV.str a0) ∧ slotAt fr 4 = some (AV.int .i64 v8) ∧ slotAt fr 5 = some (AV.bool q2) ∧ slotAt fr 6 = some (AV.str v4) ∧ slotAt fr 8 = some (AV.int .i64 (IntKind.wrap .i64 ((IntKind.wrap .i64 ((c15.toNat : Int))) - (48 : Int)))) ∧ slotAt fr 29 = some (AV.int .i64 ((List.length v4 : Int))) ∧ slotAt fr 30 = some (AV.int .i64 v9) ∧ slotAt fr 44 = some (AV.bool ((decide ((IntKind.wrap .i64 ((IntKind.wrap .i64 ((c15.toNat : Int))) - (48 : Int)) : Int) < 0) || decide ((IntKind.wrap .i64 ((IntKind.wrap .i64 ((c15.toNat : Int))) - (48 : Int)) : Int) > 9))))) ⟨by simp [hl], by simp [hl, s0, s4, s5, s6, s8, s29, s30, s43, ofBytes_length, bytesOf_ofBytes, stripL_bytes, cleanL_bytes, headOk_bytes, strs, minsA, minA, sliceA, buildSliceA, buildA, structPlaces, fillA, splice, bytesOf, aR_eq, aR_eq], by simp [hl, s0, s4, s5, s6, s8, s29, s30, s43, ofBytes_length, bytesOf_ofBytes, stripL_bytes, cleanL_bytes, headOk_bytes, strs, minsA, minA, sliceA, buildSliceA, buildA, structPlaces, fillA, splice, bytesOf, aR_eq, aR_eq], by simp [hl, s0, s4, s5, s6, s8, s29, s30, s43, ofBytes_length, bytesOf_ofBytes, stripL_bytes, cleanL_bytes, headOk_bytes, strs, minsA, minA, sliceA, buildSliceA, buildA, structPlaces, fillA, splice, bytesOf, aR_eq, aR_eq], by simp [hl, s0, s4, s5, s6, s8, s29, s30, s43, ofBytes_length, bytesOf_ofBytes, stripL_bytes, cleanL_bytes, headOk_bytes, strs, minsA, minA, sliceA, buildSliceA, buildA, structPlaces, fillA, splice, bytesOf, aR_eq, aR_eq], by simp [hl, s0, s4, s5, s6, s8, s29, s30, s43, ofBytes_length, bytesOf_ofBytes, stripL_bytes, cleanL_bytes, headOk_bytes, strs, minsA, minA, sliceA, buildSliceA, buildA, structPlaces, fillA, splice, bytesOf, aR_eq, aR_eq], by simp [hl, s0, s4, s5, s6, s8, s29, s30, s43, ofBytes_length, bytesOf_ofBytes, stripL_bytes, cleanL_bytes, headOk_bytes, strs, minsA, minA, sliceA, buildSliceA, buildA, structPlaces, fillA, splice, bytesOf, aR_eq, aR_eq], by simp [hl, s0, s4, s5, s6, s8, s29, s30, s43, ofBytes_length, bytesOf_ofBytes, stripL_bytes, cleanL_bytes, headOk_bytes, strs, minsA, minA, sliceA, buildSliceA, buildA, structPlaces, fillA, splice, bytesOf, aR_eq, aR_eq], by simp [hl, s0, s4, s5, s6, s8, s29, s30, s43, ofBytes_length, bytesOf_ofBytes, stripL_bytes, cleanL_bytes, headOk_bytes, strs, minsA, minA, sliceA, buildSliceA, buildA, structPlaces, fillA, splice, bytesOf, aR_eq, aR_eq]⟩ ?_
                clear hl s0 s4 s5 s6 s8 s29 s30 s43 fr
                rintro fr ⟨hl, s0, s4, s5, s6, s8, s29, s30, s44⟩
                obtain ⟨w17, hw17⟩ : ∃ b : Bool, b = ((decide ((IntKind.wrap .i64 ((IntKind.wrap .i64 ((c15.toNat : Int))) - (48 : Int)) : Int) < 0) || decide ((IntKind.wrap .i64 ((IntKind.wrap .i64 ((c15.toNat : Int))) - (48 : Int)) : Int) > 9))) := ⟨_, rfl⟩
                rw [← hw17] at s44
                cases w17 with
                | true =>
                  apply EvOps.run
                  · intro call; simp [hl, s0, s4, s5, s6, s8, s29, s30, s44, ofBytes_length, bytesOf_ofBytes, stripL_bytes, cleanL_bytes, headOk_bytes, strs, minsA, minA, sliceA, buildSliceA, buildA, structPlaces, fillA, splice, bytesOf, aR_eq, aR_eq]; exact rfl
                  exact ⟨_, rfl, by simp [hl], by simp [hl, s0, s4, s5, s6, s8, s29, s30, s44, ofBytes_length, bytesOf_ofBytes, stripL_bytes, cleanL_bytes, headOk_bytes, strs, minsA, minA, sliceA, buildSliceA, buildA, structPlaces, fillA, splice, bytesOf, aR_eq, aR_eq], by simp [hl, s0, s4, s5, s6, s8, s29, s30, s44, ofBytes_length, bytesOf_ofBytes, stripL_bytes, cleanL_bytes, headOk_bytes, strs, minsA, minA, sliceA, buildSliceA, buildA, structPlaces, fillA, splice, bytesOf, aR_eq, aR_eq], by first | (simp [hl, s0, s4, s5, s6, s8, s29, s30, s44, ofBytes_length, bytesOf_ofBytes, stripL_bytes, cleanL_bytes, headOk_bytes, strs, minsA, minA, sliceA, buildSliceA, buildA, structPlaces, fillA, splice, bytesOf, aR_eq, aR_eq]; done) | ((try simp only [← hw17]); (first | done | simp [hl, s0, s4, s5, s6, s8, s29, s30, s44, ofBytes_length, bytesOf_ofBytes, stripL_bytes, cleanL_bytes, headOk_bytes, strs, minsA, minA, sliceA, buildSliceA, buildA, structPlaces, fillA, splice, bytesOf, aR_eq, aR_eq])), by simp [hl, s0, s4, s5, s6, s8, s29, s30, s44, ofBytes_length, bytesOf_ofBytes, stripL_bytes, cleanL_bytes, headOk_bytes, strs, minsA, minA, sliceA, buildSliceA, buildA, structPlaces, fillA, splice, bytesOf, aR_eq, aR_eq], by simp [hl, s0, s4, s5, s6, s8, s29, s30, s44, ofBytes_length, bytesOf_ofBytes, stripL_bytes, cleanL_bytes, headOk_bytes, strs, minsA, minA, sliceA, buildSliceA, buildA, structPlaces, fillA, splice, bytesOf, aR_eq, aR_eq], by simp [hl, s0, s4, s5, s6, s8, s29, s30, s44, ofBytes_length, bytesOf_ofBytes, stripL_bytes, cleanL_bytes, headOk_bytes, strs, minsA, minA, sliceA, buildSliceA, buildA, structPlaces, fillA, splice, bytesOf, aR_eq, aR_eq], by simp [hl, s0, s4, s5, s6, s8, s29, s30, s44, ofBytes_length, bytesOf_ofBytes, stripL_bytes, cleanL_bytes, headOk_bytes, strs, minsA, minA, sliceA, buildSliceA, buildA, structPlaces, fillA, splice, bytesOf, aR_eq, aR_eq], by first | (simp [hl, s0, s4, s5, s6, s8, s29, s30, s44, ofBytes_length, bytesOf_ofBytes, stripL_bytes, cleanL_bytes, headOk_bytes, strs, minsA, minA, sliceA, buildSliceA, buildA, structPlaces, fillA, splice, bytesOf, aR_eq, aR_eq]; done) | ((try simp only [← hw17]); (first | done | simp [hl, s0, s4, s5, s6, s8, s29, s30, s44, ofBytes_length, bytesOf_ofBytes, stripL_bytes, cleanL_bytes, headOk_bytes, strs, minsA, minA, sliceA, buildSliceA, buildA, structPlaces, fillA, splice, bytesOf, aR_eq, aR_eq]))⟩
                | false =>
                  apply EvOps.run
                  · intro call; simp [hl, s0, s4, s5, s6, s8, s29, s30, s44, ofBytes_length, bytesOf_ofBytes, stripL_bytes, cleanL_bytes, headOk_bytes, strs, minsA, minA, sliceA, buildSliceA, buildA, structPlaces, fillA, splice, bytesOf, aR_eq, aR_eq]; exact rfl
                  exact ⟨_, rfl, by simp [hl], by simp [hl, s0, s4, s5, s6, s8, s29, s30, s44, ofBytes_length, bytesOf_ofBytes, stripL_bytes, cleanL_bytes, headOk_bytes, strs, minsA, minA, sliceA, buildSliceA, buildA, structPlaces, fillA, splice, bytesOf, aR_eq, aR_eq], by simp [hl, s0, s4, s5, s6, s8, s29, s30, s44, ofBytes_length, bytesOf_ofBytes, stripL_bytes, cleanL_bytes, headOk_bytes, strs, minsA, minA, sliceA, buildSliceA, buildA, structPlaces, fillA, splice, bytesOf, aR_eq, aR_eq], by first | (simp [hl, s0, s4, s5, s6, s8, s29, s30, s44, ofBytes_length, bytesOf_ofBytes, stripL_bytes, cleanL_bytes, headOk_bytes, strs, minsA, minA, sliceA, buildSliceA, buildA, structPlaces, fillA, splice, bytesOf, aR_eq, aR_eq]; done) | ((try simp only [← hw17]); (first | done | simp [hl, s0, s4, s5, s6, s8, s29, s30, s44, ofBytes_length, bytesOf_ofBytes, stripL_bytes, cleanL_bytes, headOk_bytes, strs, minsA, minA, sliceA, buildSliceA, buildA, structPlaces, fillA, splice, bytesOf, aR_eq, aR_eq])), by simp [hl, s0, s4, s5, s6, s8, s29, s30, s44, ofBytes_length, bytesOf_ofBytes, stripL_bytes, cleanL_bytes, headOk_bytes, strs, minsA, minA, sliceA, buildSliceA, buildA, structPlaces, fillA, splice, bytesOf, aR_eq, aR_eq], by simp [hl, s0, s4, s5, s6, s8, s29, s30, s44, ofBytes_length, bytesOf_ofBytes, stripL_bytes, cleanL_bytes, headOk_bytes, strs, minsA, minA, sliceA, buildSliceA, buildA, structPlaces, fillA, splice, bytesOf, aR_eq, aR_eq], by simp [hl, s0, s4, s5, s6, s8, s29, s30, s44, ofBytes_length, bytesOf_ofBytes, stripL_bytes, cleanL_bytes, headOk_bytes, strs, minsA, minA, sliceA, buildSliceA, buildA, structPlaces, fillA, splice, bytesOf, aR_eq, aR_eq], by simp [hl, s0, s4, s5, s6, s8, s29, s30, s44, ofBytes_length, bytesOf_ofBytes, stripL_bytes, cleanL_bytes, headOk_bytes, strs, minsA, minA, sliceA, buildSliceA, buildA, structPlaces, fillA, splice, bytesOf, aR_eq, aR_eq], by first | (simp [hl, s0, s4, s5, s6, s8, s29, s30, s44, ofBytes_length, bytesOf_ofBytes, stripL_bytes, cleanL_bytes, headOk_bytes, strs, minsA, minA, sliceA, buildSliceA, buildA, structPlaces, fillA, splice, bytesOf, aR_eq, aR_eq]; done) | ((try simp only [← hw17]); (first | done | simp [hl, s0, s4, s5, s6, s8, s29, s30, s44, ofBytes_length, bytesOf_ofBytes, stripL_bytes, cleanL_bytes, headOk_bytes, strs, minsA, minA, sliceA, buildSliceA, buildA, structPlaces, fillA, splice, bytesOf, aR_eq, aR_eq]))⟩
              · clear hl s0 s4 s5 s6 s8 s29 s30 s43 fr
                rintro st ⟨fr, rfl, hl, s0, s4, s5, s6, s8, s29, s30, s50⟩
                exact EvOps.done ⟨_, rfl, by simp [hl], by simp [hl, s0, s4, s5, s6, s8, s29, s30, s50, ofBytes_length, bytesOf_ofBytes, stripL_bytes, cleanL_bytes, headOk_bytes, strs, minsA, minA, sliceA, buildSliceA, buildA, structPlaces, fillA, splice, bytesOf, aR_eq, aR_eq], by simp [hl, s0, s4, s5, s6, s8, s29, s30, s50, ofBytes_length, bytesOf_ofBytes, stripL_bytes, cleanL_bytes, headOk_bytes, strs, minsA, minA, sliceA, buildSliceA, buildA, structPlaces, fillA, splice, bytesOf, aR_eq, aR_eq], by simp [hl, s0, s4, s5, s6, s8, s29, s30, s50, ofBytes_length, bytesOf_ofBytes, stripL_bytes, cleanL_bytes, headOk_bytes, strs, minsA, minA, sliceA, buildSliceA, buildA, structPlaces, fillA, splice, bytesOf, aR_eq, aR_eq], by simp [hl, s0, s4, s5, s6, s8, s29, s30, s50, ofBytes_length, bytesOf_ofBytes, stripL_bytes, cleanL_bytes, headOk_bytes, strs, minsA, minA, sliceA, buildSliceA, buildA, structPlaces, fillA, splice, bytesOf, aR_eq, aR_eq], by simp [hl, s0, s4, s5, s6, s8, s29, s30, s50, ofBytes_length, bytesOf_ofBytes, stripL_bytes, cleanL_bytes, headOk_bytes, strs, minsA, minA, sliceA, buildSliceA, buildA, structPlaces, fillA, splice, bytesOf, aR_eq, aR_eq], by simp [hl, s0, s4, s5, s6, s8, s29, s30, s50, ofBytes_length, bytesOf_ofBytes, stripL_bytes, cleanL_bytes, headOk_bytes, strs, minsA, minA, sliceA, buildSliceA, buildA, structPlaces, fillA, splice, bytesOf, aR_eq, aR_eq], by simp [hl, s0, s4, s5, s6, s8, s29, s30, s50, ofBytes_length, bytesOf_ofBytes, stripL_bytes, cleanL_bytes, headOk_bytes, strs, minsA, minA, sliceA, buildSliceA, buildA, structPlaces, fillA, splice, bytesOf, aR_eq, aR_eq], by simp [hl, s0, s4, s5, s6, s8, s29, s30, s50, ofBytes_length, bytesOf_ofBytes, stripL_bytes, cleanL_bytes, headOk_bytes, strs, minsA, minA, sliceA, buildSliceA, buildA, structPlaces, fillA, splice, bytesOf, aR_eq, aR_eq]⟩
          clear hl s0 s4 s5 s6 s8 s29 s30 fr
          rintro st ⟨fr, rfl, hl, s0, s4, s5, s6, s8, s29, s30, s50⟩
          refine Ev.cond (((decide ((IntKind.wrap .i64 ((IntKind.wrap .i64 ((c15.toNat : Int))) - (48 : Int)) : Int) < 0) || decide ((IntKind.wrap .i64 ((IntKind.wrap .i64 ((c15.toNat : Int))) - (48 : Int)) : Int) > 9)) || decide ((v8 : Int) < IntKind.wrap .i64 (Int.tdiv (IntKind.wrap .i64 (((-9223372036854775808) : Int) + (IntKind.wrap .i64 ((IntKind.wrap .i64 ((c15.toNat : Int))) - (48 : Int))))) (10 : Int))))) (by simp [hl, s0, s4, s5, s6, s8, s29, s30, s50, ofBytes_length, bytesOf_ofBytes, stripL_bytes, cleanL_bytes, headOk_bytes, strs, minsA, minA, sliceA, buildSliceA, buildA, structPlaces, fillA, splice, bytesOf, aR_eq, aR_eq]) (fun h_18 => ?_) (fun h_18 => ?_)
          · rw [if_pos h_18] at hg
            refine Ev.seq ?_
            refine Ev.region ?_
            apply EvOps.keep (h' := []) (d' := false) (fun fr => fr.length = 67 ∧ slotAt fr 2 = some (AV.int .i64 0) ∧ slotAt fr 3 = some (AV.bool false))
            · intro call; simp [hl, s0, s4, s5, s6, s8, s29, s30, s50, ofBytes_length, bytesOf_ofBytes, stripL_bytes, cleanL_bytes, headOk_bytes, strs, minsA, minA, sliceA, buildSliceA, buildA, structPlaces, fillA, splice, bytesOf, aR_eq, aR_eq]; exact rfl
            · exact ⟨by simp [hl], by simp [hl, s0, s4, s5, s6, s8, s29, s30, s50, ofBytes_length, bytesOf_ofBytes, stripL_bytes, cleanL_bytes, headOk_bytes, strs, minsA, minA, sliceA, buildSliceA, buildA, structPlaces, fillA, splice, bytesOf, aR_eq, aR_eq], by simp [hl, s0, s4, s5, s6, s8, s29, s30, s50, ofBytes_length, bytesOf_ofBytes, stripL_bytes, cleanL_bytes, headOk_bytes, strs, minsA, minA, sliceA, buildSliceA, buildA, structPlaces, fillA, splice, bytesOf, aR_eq, aR_eq]⟩
            clear hl s0 s4 s5 s6 s8 s29 s30 s50 fr
            rintro fr ⟨hl, s2, s3⟩
            refine Ev.ret ?_
            have hs := Option.some.inj hg; subst hs; clear hg; have ho := Option.some.inj hstep; subst ho
            exact .inr (⟨rfl, _, 0, false, rfl, hl, by simp [hl, s2, s3, ofBytes_length, bytesOf_ofBytes, stripL_bytes, cleanL_bytes, headOk_bytes, strs, minsA, minA, sliceA, buildSliceA, buildA, structPlaces, fillA, splice, bytesOf, aR_eq, aR_eq], by simp [hl, s2, s3, ofBytes_length, bytesOf_ofBytes, stripL_bytes, cleanL_bytes, headOk_bytes, strs, minsA, minA, sliceA, buildSliceA, buildA, structPlaces, fillA, splice, bytesOf, aR_eq, aR_eq], rfl⟩)
          · rw [if_neg (by rw [h_18]; simp)] at hg
            refine Ev.skip ?_
            refine Ev.region ?_
            apply EvOps.keep (h' := []) (d' := false) (fun fr => fr.length = 67 ∧ slotAt fr 0 = some (AV.str a0) ∧ slotAt fr 4 = some (AV.int .i64 (IntKind.wrap .i64 ((IntKind.wrap .i64 ((10 : Int) * v8)) - (IntKind.wrap .i64 ((IntKind.wrap .i64 ((c15.toNat : Int))) - (48 : Int)))))) ∧ slotAt fr 5 = some (AV.bool q2) ∧ slotAt fr 6 = some (AV.str v4) ∧ slotAt fr 29 = some (AV.int .i64 ((List.length v4 : Int))) ∧ slotAt fr 30 = some (AV.int .i64 v9))
            · intro call; simp [hl, s0, s4, s5, s6, s8, s29, s30, s50, ofBytes_length, bytesOf_ofBytes, stripL_bytes, cleanL_bytes, headOk_bytes, strs, minsA, minA, sliceA, buildSliceA, buildA, structPlaces, fillA, splice, bytesOf, aR_eq, aR_eq]; exact rfl
            · exact ⟨by simp [hl], by simp [hl, s0, s4, s5, s6, s8, s29, s30, s50, ofBytes_length, bytesOf_ofBytes, stripL_bytes, cleanL_bytes, headOk_bytes, strs, minsA, minA, sliceA, buildSliceA, buildA, structPlaces, fillA, splice, bytesOf, aR_eq, aR_eq], by simp [hl, s0, s4, s5, s6, s8, s29, s30, s50, ofBytes_length, bytesOf_ofBytes, stripL_bytes, cleanL_bytes, headOk_bytes, strs, minsA, minA, sliceA, buildSliceA, buildA, structPlaces, fillA, splice, bytesOf, aR_eq, aR_eq], by simp [hl, s0, s4, s5, s6, s8, s29, s30, s50, ofBytes_length, bytesOf_ofBytes, stripL_bytes, cleanL_bytes, headOk_bytes, strs, minsA, minA, sliceA, buildSliceA, buildA, structPlaces, fillA, splice, bytesOf, aR_eq, aR_eq], by simp [hl, s0, s4, s5, s6, s8, s29, s30, s50, ofBytes_length, bytesOf_ofBytes, stripL_bytes, cleanL_bytes, headOk_bytes, strs, minsA, minA, sliceA, buildSliceA, buildA, structPlaces, fillA, splice, bytesOf, aR_eq, aR_eq], by simp [hl, s0, s4, s5, s6, s8, s29, s30, s50, ofBytes_length, bytesOf_ofBytes, stripL_bytes, cleanL_bytes, headOk_bytes, strs, minsA, minA, sliceA, buildSliceA, buildA, structPlaces, fillA, splice, bytesOf, aR_eq, aR_eq], by simp [hl, s0, s4, s5, s6, s8, s29, s30, s50, ofBytes_length, bytesOf_ofBytes, stripL_bytes, cleanL_bytes, headOk_bytes, strs, minsA, minA, sliceA, buildSliceA, buildA, structPlaces, fillA, splice, bytesOf, aR_eq, aR_eq]⟩
            clear hl s0 s4 s5 s6 s8 s29 s30 s50 fr
            rintro fr ⟨hl, s0, s4, s5, s6, s29, s30⟩
            refine Ev.region ?_
            apply EvOps.keep (h' := []) (d' := false) (fun fr => fr.length = 67 ∧ slotAt fr 0 = some (AV.str a0) ∧ slotAt fr 4 = some (AV.int .i64 (IntKind.wrap .i64 ((IntKind.wrap .i64 ((10 : Int) * v8)) - (IntKind.wrap .i64 ((IntKind.wrap .i64 ((c15.toNat : Int))) - (48 : Int)))))) ∧ slotAt fr 5 = some (AV.bool q2) ∧ slotAt fr 6 = some (AV.str v4) ∧ slotAt fr 29 = some (AV.int .i64 ((List.length v4 : Int))) ∧ slotAt fr 30 = some (AV.int .i64 (IntKind.wrap .i64 (v9 + (1 : Int)))))
            · intro call; simp [hl, s0, s4, s5, s6, s29, s30, ofBytes_length, bytesOf_ofBytes, stripL_bytes, cleanL_bytes, headOk_bytes, strs, minsA, minA, sliceA, buildSliceA, buildA, structPlaces, fillA, splice, bytesOf, aR_eq, aR_eq]; exact rfl
            · exact ⟨by simp [hl], by simp [hl, s0, s4, s5, s6, s29, s30, ofBytes_length, bytesOf_ofBytes, stripL_bytes, cleanL_bytes, headOk_bytes, strs, minsA, minA, sliceA, buildSliceA, buildA, structPlaces, fillA, splice, bytesOf, aR_eq, aR_eq], by simp [hl, s0, s4, s5, s6, s29, s30, ofBytes_length, bytesOf_ofBytes, stripL_bytes, cleanL_bytes, headOk_bytes, strs, minsA, minA, sliceA, buildSliceA, buildA, structPlaces, fillA, splice, bytesOf, aR_eq, aR_eq], by simp [hl, s0, s4, s5, s6, s29, s30, ofBytes_length, bytesOf_ofBytes, stripL_bytes, cleanL_bytes, headOk_bytes, strs, minsA, minA, sliceA, buildSliceA, buildA, structPlaces, fillA, splice, bytesOf, aR_eq, aR_eq], by simp [hl, s0, s4, s5, s6, s29, s30, ofBytes_length, bytesOf_ofBytes, stripL_bytes, cleanL_bytes, headOk_bytes, strs, minsA, minA, sliceA, buildSliceA, buildA, structPlaces, fillA, splice, bytesOf, aR_eq, aR_eq], by simp [hl, s0, s4, s5, s6, s29, s30, ofBytes_length, bytesOf_ofBytes, stripL_bytes, cleanL_bytes, headOk_bytes, strs, minsA, minA, sliceA, buildSliceA, buildA, structPlaces, fillA, splice, bytesOf, aR_eq, aR_eq], by simp [hl, s0, s4, s5, s6, s29, s30, ofBytes_length, bytesOf_ofBytes, stripL_bytes, cleanL_bytes, headOk_bytes, strs, minsA, minA, sliceA, buildSliceA, buildA, structPlaces, fillA, splice, bytesOf, aR_eq, aR_eq]⟩
            clear hl s0 s4 s5 s6 s29 s30 fr
            rintro fr ⟨hl, s0, s4, s5, s6, s29, s30⟩
            have hs := Option.some.inj hg; subst hs; clear hg
            exact ⟨m, Nat.lt_succ_self m, _, IntKind.wrap .i64 ((IntKind.wrap .i64 ((10 : Int) * v8)) - (IntKind.wrap .i64 ((IntKind.wrap .i64 ((c15.toNat : Int))) - (48 : Int)))), IntKind.wrap .i64 (v9 + (1 : Int)), rfl, hl, by simp [hl, s0, s4, s5, s6, s29, s30, ofBytes_length, bytesOf_ofBytes, stripL_bytes, cleanL_bytes, headOk_bytes, strs, minsA, minA, sliceA, buildSliceA, buildA, structPlaces, fillA, splice, bytesOf, aR_eq, aR_eq], by simp [hl, s0, s4, s5, s6, s29, s30, ofBytes_length, bytesOf_ofBytes, stripL_bytes, cleanL_bytes, headOk_bytes, strs, minsA, minA, sliceA, buildSliceA, buildA, structPlaces, fillA, splice, bytesOf, aR_eq, aR_eq], by simp [hl, s0, s4, s5, s6, s29, s30, ofBytes_length, bytesOf_ofBytes, stripL_bytes, cleanL_bytes, headOk_bytes, strs, minsA, minA, sliceA, buildSliceA, buildA, structPlaces, fillA, splice, bytesOf, aR_eq, aR_eq], by simp [hl, s0, s4, s5, s6, s29, s30, ofBytes_length, bytesOf_ofBytes, stripL_bytes, cleanL_bytes, headOk_bytes, strs, minsA, minA, sliceA, buildSliceA, buildA, structPlaces, fillA, splice, bytesOf, aR_eq, aR_eq], by simp [hl, s0, s4, s5, s6, s29, s30, ofBytes_length, bytesOf_ofBytes, stripL_bytes, cleanL_bytes, headOk_bytes, strs, minsA, minA, sliceA, buildSliceA, buildA, structPlaces, fillA, splice, bytesOf, aR_eq, aR_eq], by simp [hl, s0, s4, s5, s6, s29, s30, ofBytes_length, bytesOf_ofBytes, stripL_bytes, cleanL_bytes, headOk_bytes, strs, minsA, minA, sliceA, buildSliceA, buildA, structPlaces, fillA, splice, bytesOf, aR_eq, aR_eq], hstep⟩
        · rw [if_neg (by rw [h_14]; simp)] at hg
          refine Ev.exit ?_
          have hs := Option.some.inj hg; subst hs; clear hg; have ho := Option.some.inj hstep; subst ho
          exact .inl ⟨rfl, _, v8, rfl, hl, by simp [hl, s0, s4, s5, s6, s29, s30, s31, ofBytes_length, bytesOf_ofBytes, stripL_bytes, cleanL_bytes, headOk_bytes, strs, minsA, minA, sliceA, buildSliceA, buildA, structPlaces, fillA, splice, bytesOf, aR_eq, aR_eq], by simp [hl, s0, s4, s5, s6, s29, s30, s31, ofBytes_length, bytesOf_ofBytes, stripL_bytes, cleanL_bytes, headOk_bytes, strs, minsA, minA, sliceA, buildSliceA, buildA, structPlaces, fillA, splice, bytesOf, aR_eq, aR_eq], by simp [hl, s0, s4, s5, s6, s29, s30, s31, ofBytes_length, bytesOf_ofBytes, stripL_bytes, cleanL_bytes, headOk_bytes, strs, minsA, minA, sliceA, buildSliceA, buildA, structPlaces, fillA, splice, bytesOf, aR_eq, aR_eq], rfl⟩
      · clear eo19 hl s0 s4 s5 s6 s29 s30 fr
        rintro x st (⟨rfl, fr, v11, rfl, hl, s0, s4, s5, ho⟩ | ⟨rfl, fr, v12, v13, rfl, hl, s2, s3, ho⟩)
        · rw [ho] at hg; (try dsimp only at hg); clear ho
          refine Ev.mid (fun st => ∃ (fr : List AV) (v20 : Int), st = ⟨fr, [], false⟩ ∧ fr.length = 67 ∧ slotAt fr 0 = some (AV.str a0) ∧ slotAt fr 4 = some (AV.int .i64 v20) ∧ F78_j20 k a0 v20 = some r) ?_ ?_
          · refine Ev.seq ?_
            refine Ev.region ?_
            apply EvOps.keep (h' := []) (d' := false) (fun fr => fr.length = 67 ∧ slotAt fr 0 = some (AV.str a0) ∧ slotAt fr 4 = some (AV.int .i64 v11) ∧ slotAt fr 57 = some (AV.bool ((!q2))))
            · intro call; simp [hl, s0, s4, s5, ofBytes_length, bytesOf_ofBytes, stripL_bytes, cleanL_bytes, headOk_bytes, strs, minsA, minA, sliceA, buildSliceA, buildA, structPlaces, fillA, splice, bytesOf, aR_eq, aR_eq]; exact rfl
            · exact ⟨by simp [hl], by simp [hl, s0, s4, s5, ofBytes_length, bytesOf_ofBytes, stripL_bytes, cleanL_bytes, headOk_bytes, strs, minsA, minA, sliceA, buildSliceA, buildA, structPlaces, fillA, splice, bytesOf, aR_eq, aR_eq], by simp [hl, s0, s4, s5, ofBytes_length, bytesOf_ofBytes, stripL_bytes, cleanL_bytes, headOk_bytes, strs, minsA, minA, sliceA, buildSliceA, buildA, structPlaces, fillA, splice, bytesOf, aR_eq, aR_eq], by simp [hl, s0, s4, s5, ofBytes_length, bytesOf_ofBytes, stripL_bytes, cleanL_bytes, headOk_bytes, strs, minsA, minA, sliceA, buildSliceA, buildA, structPlaces, fillA, splice, bytesOf, aR_eq, aR_eq]⟩
            clear hl s0 s4 s5 fr
            rintro fr ⟨hl, s0, s4, s57⟩
            refine Ev.cond ((!q2)) (by simp [hl, s0, s4, s57, ofBytes_length, bytesOf_ofBytes, stripL_bytes, cleanL_bytes, headOk_bytes, strs, minsA, minA, sliceA, buildSliceA, buildA, structPlaces, fillA, splice, bytesOf, aR_eq, aR_eq]) (fun h_24 => ?_) (fun h_24 => ?_)
            · rw [if_pos h_24] at hg
              refine Ev.seq ?_
              refine Ev.seq ?_
              refine Ev.region ?_
              apply EvOps.keep (h' := []) (d' := false) (fun fr => fr.length = 67 ∧ slotAt fr 0 = some (AV.str a0) ∧ slotAt fr 4 = some (AV.int .i64 v11) ∧ slotAt fr 59 = some (AV.bool (((v11 : Int) == (-9223372036854775808)))))
              · intro call; simp [hl, s0, s4, s57, ofBytes_length, bytesOf_ofBytes, stripL_bytes, cleanL_bytes, headOk_bytes, strs, minsA, minA, sliceA, buildSliceA, buildA, structPlaces, fillA, splice, bytesOf, aR_eq, aR_eq]; exact rfl
              · exact ⟨by simp [hl], by simp [hl, s0, s4, s57, ofBytes_length, bytesOf_ofBytes, stripL_bytes, cleanL_bytes, headOk_bytes, strs, minsA, minA, sliceA, buildSliceA, buildA, structPlaces, fillA, splice, bytesOf, aR_eq, aR_eq], by simp [hl, s0, s4, s57, ofBytes_length, bytesOf_ofBytes, stripL_bytes, cleanL_bytes, headOk_bytes, strs, minsA, minA, sliceA, buildSliceA, buildA, structPlaces, fillA, splice, bytesOf, aR_eq, aR_eq], by simp [hl, s0, s4, s57, ofBytes_length, bytesOf_ofBytes, stripL_bytes, cleanL_bytes, headOk_bytes, strs, minsA, minA, sliceA, buildSliceA, buildA, structPlaces, fillA, splice, bytesOf, aR_eq, aR_eq]⟩
              clear hl s0 s4 s57 fr
              rintro fr ⟨hl, s0, s4, s59⟩
              refine Ev.cond (((v11 : Int) == (-9223372036854775808))) (by simp [hl, s0, s4, s59, ofBytes_length, bytesOf_ofBytes, stripL_bytes, cleanL_bytes, headOk_bytes, strs, minsA, minA, sliceA, buildSliceA, buildA, structPlaces, fillA, splice, bytesOf, aR_eq, aR_eq]) (fun h_25 => ?_) (fun h_25 => ?_)
              · rw [if_pos h_25] at hg
                refine Ev.seq ?_
                refine Ev.region ?_
                apply EvOps.keep (h' := []) (d' := false) (fun fr => fr.length = 67 ∧ slotAt fr 2 = some (AV.int .i64 0) ∧ slotAt fr 3 = some (AV.bool false))
                · intro call; simp [hl, s0, s4, s59, ofBytes_length, bytesOf_ofBytes, stripL_bytes, cleanL_bytes, headOk_bytes, strs, minsA, minA, sliceA, buildSliceA, buildA, structPlaces, fillA, splice, bytesOf, aR_eq, aR_eq]; exact rfl
                · exact ⟨by simp [hl], by simp [hl, s0, s4, s59, ofBytes_length, bytesOf_ofBytes, stripL_bytes, cleanL_bytes, headOk_bytes, strs, minsA, minA, sliceA, buildSliceA, buildA, structPlaces, fillA, splice, bytesOf, aR_eq, aR_eq], by simp [hl, s0, s4, s59, ofBytes_length, bytesOf_ofBytes, stripL_bytes, cleanL_bytes, headOk_bytes, strs, minsA, minA, sliceA, buildSliceA, buildA, structPlaces, fillA, splice, bytesOf, aR_eq, aR_eq]⟩
                clear hl s0 s4 s59 fr
                rintro fr ⟨hl, s2, s3⟩
                refine Ev.ret ?_
                have hs := Option.some.inj hg; subst hs
                exact ⟨AV.tuple [AV.int .i64 0, AV.bool false], by simp [Try.f78, hl, s2, s3, ofBytes_length, bytesOf_ofBytes, stripL_bytes, cleanL_bytes, headOk_bytes, strs, minsA, minA, sliceA, buildSliceA, buildA, structPlaces, fillA, splice, bytesOf, aR_eq, aR_eq] <;> exact rfl, by simp [strs, aR_eq, aR_eq]⟩
              · rw [if_neg (by rw [h_25]; simp)] at hg
                refine Ev.skip ?_
                refine Ev.region ?_
                apply EvOps.keep (h' := []) (d' := false) (fun fr => fr.length = 67 ∧ slotAt fr 0 = some (AV.str a0) ∧ slotAt fr 4 = some (AV.int .i64 (IntKind.wrap .i64 (0 - v11))))
                · intro call; simp [hl, s0, s4, s59, ofBytes_length, bytesOf_ofBytes, stripL_bytes, cleanL_bytes, headOk_bytes, strs, minsA, minA, sliceA, buildSliceA, buildA, structPlaces, fillA, splice, bytesOf, aR_eq, aR_eq]; exact rfl
                · exact ⟨by simp [hl], by simp [hl, s0, s4, s59, ofBytes_length, bytesOf_ofBytes, stripL_bytes, cleanL_bytes, headOk_bytes, strs, minsA, minA, sliceA, buildSliceA, buildA, structPlaces, fillA, splice, bytesOf, aR_eq, aR_eq], by simp [hl, s0, s4, s59, ofBytes_length, bytesOf_ofBytes, stripL_bytes, cleanL_bytes, headOk_bytes, strs, minsA, minA, sliceA, buildSliceA, buildA, structPlaces, fillA, splice, bytesOf, aR_eq, aR_eq]⟩
                clear hl s0 s4 s59 fr
                rintro fr ⟨hl, s0, s4⟩
                exact ⟨_, IntKind.wrap .i64 (0 - v11), rfl, hl, by simp [hl, s0, s4, ofBytes_length, bytesOf_ofBytes, stripL_bytes, cleanL_bytes, headOk_bytes, strs, minsA, minA, sliceA, buildSliceA, buildA, structPlaces, fillA, splice, bytesOf, aR_eq, aR_eq], by simp [hl, s0, s4, ofBytes_length, bytesOf_ofBytes, stripL_bytes, cleanL_bytes, headOk_bytes, strs, minsA, minA, sliceA, buildSliceA, buildA, structPlaces, fillA, splice, bytesOf, aR_eq, aR_eq], hg⟩
            · rw [if_neg (by rw [h_24]; simp)] at hg
              refine Ev.skip ?_
              exact ⟨_, v11, rfl, hl, by simp [hl, s0, s4, s57, ofBytes_length, bytesOf_ofBytes, stripL_bytes, cleanL_bytes, headOk_bytes, strs, minsA, minA, sliceA, buildSliceA, buildA, structPlaces, fillA, splice, bytesOf, aR_eq, aR_eq], by simp [hl, s0, s4, s57, ofBytes_length, bytesOf_ofBytes, stripL_bytes, cleanL_bytes, headOk_bytes, strs, minsA, minA, sliceA, buildSliceA, buildA, structPlaces, fillA, splice, bytesOf, aR_eq, aR_eq], hg⟩
          · clear hg hl s0 s4 s5 fr
            rintro st ⟨fr, v20, rfl, hl, s0, s4, hg⟩
            unfold F78_j20 at hg
            refine Ev.seq ?_
            refine Ev.seq ?_
            refine Ev.region ?_
            obtain ⟨r22, er22, hg⟩ := bind_some hg
            refine EvOps.take 1 ?_
            apply EvOps.run
            · intro call; simp [hl, s0, s4, ofBytes_length, bytesOf_ofBytes, stripL_bytes, cleanL_bytes, headOk_bytes, strs, minsA, minA, sliceA, buildSliceA, buildA, structPlaces, fillA, splice, bytesOf, aR_eq, aR_eq]; exact rfl
            refine EvOps.call rfl (by simp [hl, s0, s4, ofBytes_length, bytesOf_ofBytes, stripL_bytes, cleanL_bytes, headOk_bytes, strs, minsA, minA, sliceA, buildSliceA, buildA, structPlaces, fillA, splice, bytesOf, aR_eq, aR_eq]) (by simp [hl, s0, s4, ofBytes_length, bytesOf_ofBytes, stripL_bytes, cleanL_bytes, headOk_bytes, strs, minsA, minA, sliceA, buildSliceA, buildA, structPlaces, fillA, splice, bytesOf, aR_eq, aR_eq] <;> exact rfl) (by simp [hl, s0, s4, ofBytes_length, bytesOf_ofBytes, stripL_bytes, cleanL_bytes, headOk_bytes, strs, minsA, minA, sliceA, buildSliceA, buildA, structPlaces, fillA, splice, bytesOf, aR_eq, aR_eq] <;> exact rfl) (F129_ok er22) ?_
            apply EvOps.keep (h' := []) (d' := false) (fun fr => fr.length = 67 ∧ slotAt fr 4 = some (AV.int .i64 v20) ∧ slotAt fr 65 = some (AV.bool ((!(r22 == a0)))))
            · intro call; simp [hl, s0, s4, ofBytes_length, bytesOf_ofBytes, stripL_bytes, cleanL_bytes, headOk_bytes, strs, minsA, minA, sliceA, buildSliceA, buildA, structPlaces, fillA, splice, bytesOf, aR_eq, aR_eq]; exact rfl
            · exact ⟨by simp [hl], by simp [hl, s0, s4, ofBytes_length, bytesOf_ofBytes, stripL_bytes, cleanL_bytes, headOk_bytes, strs, minsA, minA, sliceA, buildSliceA, buildA, structPlaces, fillA, splice, bytesOf, aR_eq, aR_eq], by simp [hl, s0, s4, ofBytes_length, bytesOf_ofBytes, stripL_bytes, cleanL_bytes, headOk_bytes, strs, minsA, minA, sliceA, buildSliceA, buildA, structPlaces, fillA, splice, bytesOf, aR_eq, aR_eq]⟩
            clear hl s0 s4 fr
            rintro fr ⟨hl, s4, s65⟩
            refine Ev.cond ((!(r22 == a0))) (by simp [hl, s4, s65, ofBytes_length, bytesOf_ofBytes, stripL_bytes, cleanL_bytes, headOk_bytes, strs, minsA, minA, sliceA, buildSliceA, buildA, structPlaces, fillA, splice, bytesOf, aR_eq, aR_eq]) (fun h_23 => ?_) (fun h_23 => ?_)
            · rw [if_pos h_23] at hg
              refine Ev.seq ?_
              refine Ev.region ?_
              apply EvOps.keep (h' := []) (d' := false) (fun fr => fr.length = 67 ∧ slotAt fr 2 = some (AV.int .i64 0) ∧ slotAt fr 3 = some (AV.bool false))
              · intro call; simp [hl, s4, s65, ofBytes_length, bytesOf_ofBytes, stripL_bytes, cleanL_bytes, headOk_bytes, strs, minsA, minA, sliceA, buildSliceA, buildA, structPlaces, fillA, splice, bytesOf, aR_eq, aR_eq]; exact rfl
              · exact ⟨by simp [hl], by simp [hl, s4, s65, ofBytes_length, bytesOf_ofBytes, stripL_bytes, cleanL_bytes, headOk_bytes, strs, minsA, minA, sliceA, buildSliceA, buildA, structPlaces, fillA, splice, bytesOf, aR_eq, aR_eq], by simp [hl, s4, s65, ofBytes_length, bytesOf_ofBytes, stripL_bytes, cleanL_bytes, headOk_bytes, strs, minsA, minA, sliceA, buildSliceA, buildA, structPlaces, fillA, splice, bytesOf, aR_eq, aR_eq]⟩
              clear hl s4 s65 fr
              rintro fr ⟨hl, s2, s3⟩
              refine Ev.ret ?_
              have hs := Option.some.inj hg; subst hs
              exact ⟨AV.tuple [AV.int .i64 0, AV.bool false], by simp [Try.f78, hl, s2, s3, ofBytes_length, bytesOf_ofBytes, stripL_bytes, cleanL_bytes, headOk_bytes, strs, minsA, minA, sliceA, buildSliceA, buildA, structPlaces, fillA, splice, bytesOf, aR_eq, aR_eq] <;> exact rfl, by simp [strs, aR_eq, aR_eq]⟩
            · rw [if_neg (by rw [h_23]; simp)] at hg
              refine Ev.skip ?_
              refine Ev.seq ?_
              refine Ev.region ?_
              apply EvOps.keep (h' := []) (d' := false) (fun fr => fr.length = 67 ∧ slotAt fr 2 = some (AV.int .i64 v20) ∧ slotAt fr 3 = some (AV.bool true))
              · intro call; simp [hl, s4, s65, ofBytes_length, bytesOf_ofBytes, stripL_bytes, cleanL_bytes, headOk_bytes, strs, minsA, minA, sliceA, buildSliceA, buildA, structPlaces, fillA, splice, bytesOf, aR_eq, aR_eq]; exact rfl
              · exact ⟨by simp [hl], by simp [hl, s4, s65, ofBytes_length, bytesOf_ofBytes, stripL_bytes, cleanL_bytes, headOk_bytes, strs, minsA, minA, sliceA, buildSliceA, buildA, structPlaces, fillA, splice, bytesOf, aR_eq, aR_eq], by simp [hl, s4, s65, ofBytes_length, bytesOf_ofBytes, stripL_bytes, cleanL_bytes, headOk_bytes, strs, minsA, minA, sliceA, buildSliceA, buildA, structPlaces, fillA, splice, bytesOf, aR_eq, aR_eq]⟩
              clear hl s4 s65 fr
              rintro fr ⟨hl, s2, s3⟩
              refine Ev.ret ?_
              have hs := Option.some.inj hg; subst hs
              exact ⟨AV.tuple [AV.int .i64 v20, AV.bool true], by simp [Try.f78, hl, s2, s3, ofBytes_length, bytesOf_ofBytes, stripL_bytes, cleanL_bytes, headOk_bytes, strs, minsA, minA, sliceA, buildSliceA, buildA, structPlaces, fillA, splice, bytesOf, aR_eq, aR_eq] <;> exact rfl, by simp [strs, aR_eq, aR_eq]⟩
        · rw [ho] at hg; (try dsimp only at hg); clear ho
          have hs := Option.some.inj hg; subst hs
          exact ⟨AV.tuple [AV.int .i64 v12, AV.bool v13], by simp [Try.f78, hl, s2, s3, ofBytes_length, bytesOf_ofBytes, stripL_bytes, cleanL_bytes, headOk_bytes, strs, minsA, minA, sliceA, buildSliceA, buildA, structPlaces, fillA, splice, bytesOf, aR_eq, aR_eq] <;> exact rfl, by simp [strs, aR_eq, aR_eq]⟩

end Go.Proofs.Ytpfdfilkhaoibaa
