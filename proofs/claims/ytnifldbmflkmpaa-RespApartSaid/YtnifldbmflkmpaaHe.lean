/-
  resp.write, resp.Write: what is written is the encoding.
-/
import Derived.Test.YtnifldbmflkmpaaHd
import Derived.Test.YtnifldbmflkmpaaHa
namespace Go.Proofs.Ytnifldbmflkmpaa
open Go Ev
set_option linter.unusedVariables false
set_option linter.unusedSimpArgs false
set_option maxRecDepth 10000
theorem headOk_bytes (s : S) : headOk 1 (ofBytes s) = true := by cases s <;> rfl
theorem ofBytes_append (a b : S) : ofBytes (a ++ b) = ofBytes a ++ ofBytes b := by simp [ofBytes]
theorem ofBytes_ne {a : S} (h : a ≠ []) : ofBytes a ≠ [] := by cases a <;> simp_all [ofBytes]
theorem cleanL_bytes (n : Nat) (s : S) : cleanL n (ofBytes s) = true := by
  unfold ofBytes
  exact cleanL_map n (fun b : UInt8 => AV.int .u8 (b.toNat : Int)) (fun _ => clean_int _ _ _) s
theorem stripL_bytes (s : S) : stripL (ofBytes s) = ofBytes s := by
  unfold ofBytes
  exact stripL_map (fun b : UInt8 => AV.int .u8 (b.toNat : Int)) (fun _ => strip_int _ _) s
theorem encRs_take (l : List R) (i : Nat) (h : i < l.length) : encRs (l.take (i + 1)) = encRs (l.take i) ++ encR l[i] := by
  have key : ∀ a b : List R, encRs (a ++ b) = encRs a ++ encRs b := by
    intro a b
    induction a with
    | nil => simp [encRs]
    | cons r a ih => simp [encRs, ih]
  rw [List.take_add_one, List.getElem?_eq_getElem h, key]
  simp [encRs]
theorem encRs_len_take (l : List R) (i : Nat) (h : i < l.length) : (encRs (l.take i)).length + (encR l[i]).length ≤ (encRs l).length := by
  have e := encRs_take l i h
  have key : ∀ (a : List R) (i : Nat), (encRs (a.take i)).length ≤ (encRs a).length := by
    intro a
    induction a with
    | nil => intro i; simp
    | cons r a ih => intro i; cases i with
      | zero => simp [encRs]
      | succ i => have := ih i; simp only [List.take_succ_cons, encRs, List.length_append]; omega
  have := key l (i + 1)
  rw [e, List.length_append] at this
  exact this
/-- What writing a reply behind octets leaves. -/
def Wrote (x : AV) (xs : S) (h : Heap) (e : S) (v : AV) (h' : Heap) (d' : Bool) : Prop :=
  Grow 1 h' v (ofBytes (xs ++ e)) ∧ Stays x h v h' ∧ (d' = true ∨ ∃ i, tokOf v = some i ∧ h.length ≤ i)
theorem dec_len (n : Int) (h0 : -(2 ^ 63) ≤ n) (h1 : n < 2 ^ 63) : (decS n).length ≤ 20 := by
  have := digs_length 19 n.natAbs (by omega) (by omega)
  unfold decS; split <;> (try simp only [List.length_cons]) <;> omega
set_option maxHeartbeats 8000000 in
theorem write_ok : ∀ (r : R), smR r → ∀ (h : Heap) (x : AV) (xs : S), Grow 1 h x (ofBytes xs) → xs.length + (encR r).length ≤ 2 ^ 40 →
    RetI cfg 63 [x, aR r] h (Wrote x xs h (encR r))
  | .mk k s n l, hsm, h, x, xs, hg, hlen => by
    simp only [smR] at hsm
    obtain ⟨hs2, hl2, ⟨hn0, hn1⟩, hsm⟩ := hsm
    have ih : ∀ (i : Nat) (hi : i < l.length) (h : Heap) (x : AV) (xs : S), Grow 1 h x (ofBytes xs) → xs.length + (encR l[i]).length ≤ 2 ^ 40 → RetI cfg 63 [x, aR l[i]] h (Wrote x xs h (encR l[i])) := fun i hi h x xs =>
      have := elem_size hi
      write_ok l[i] (smRs_get i hi hsm) h x xs
    have htok : tokOf x ≠ some h.length := fun e => by have := hg.tok_lt e; omega
    -- one append, and the end
    have fin : ∀ (e : S) (v : AV) (h' : Heap) (d' : Bool), Grow 1 h' v (ofBytes xs ++ ofBytes e) → Stays x (h ++ [.cells [.int .i64 k, .str s, .int .i64 n, rs l]]) v h' → e ≠ [] → (ofBytes e ≠ [] → d' = true ∨ ∃ i, tokOf v = some i ∧ h.length ≤ i) → Wrote x xs h e v h' d' := by
      intro e v h' d' g st he hd
      refine ⟨by rw [ofBytes_append]; exact g, (Stays.push x h _).trans st, hd (ofBytes_ne he)⟩
    refine RetI.of_body rfl rfl Try.func63 rfl ?_
    refine Ev.seq (Ev.region ?_)
    apply EvOps.keep (h' := h ++ [.cells [.int .i64 k, .str s, .int .i64 n, rs l]]) (d' := false) (fun fr => fr.length = 72 ∧ slotAt fr 0 = some x ∧ slotAt fr 3 = some (.ptr h.length 0))
    · intro call; simp [Try.f63, aR, rs]; exact rfl
    · exact ⟨by simp, by simp, by simp⟩
    rintro fr ⟨hl, h0, h3⟩
    refine Ev.seq (Ev.seq (Ev.region ?_))
    apply EvOps.keep (h' := h ++ [.cells [.int .i64 k, .str s, .int .i64 n, rs l]]) (d' := false) (fun fr => fr.length = 72 ∧ slotAt fr 0 = some x ∧ slotAt fr 3 = some (.ptr h.length 0) ∧ slotAt fr 8 = some (.int .i64 k))
    · intro call; simp [hl, h3]; exact rfl
    · exact ⟨by simp [hl], by simp [h0], by simp [h3], by simp [hl]⟩
    clear hl h0 h3 fr
    rintro fr ⟨hl, h0, h3, h8⟩
    have hg' := hg.push (.cells [.int .i64 k, .str s, .int .i64 n, rs l])
    refine Ev.block (Ev.seq (Ev.region ?_))
    apply EvOps.run
    · intro call; simp [hl, h8]; exact rfl
    refine Ev.cond (k == 0) (by simp [hl]) (fun c => ?_) (fun c0 => ?_)
    · simp only [beq_iff_eq] at c
      have he : encR (.mk k s n l) = 43 :: (s ++ crlf) := by simp only [encR, c, if_true]
      rw [he] at hlen ⊢
      simp only [List.length_cons, List.length_append, crlf, List.length_nil] at hlen
      refine Ev.seq (Ev.region (EvOps.take 5 ?_))
      apply EvOps.run
      · intro call; simp [hl, h0, h3, show 1 + s.length ≤ 140737488355328 by omega, show s.length + 1 ≤ 140737488355328 by omega, show s.length + 1 + 2 ≤ 140737488355328 by omega, show 1 + s.length + 2 ≤ 140737488355328 by omega, show s.length + 2 + 1 ≤ 140737488355328 by omega]; exact rfl
      refine EvOps.appendB (x := x) (y := .str (43 :: (s ++ crlf))) rfl rfl (by simp) (by simp [hl]; exact rfl) Try.underlying43 Try.underlying9 rfl Ty.s5 Ty.b5 Ty.z5 rfl hg' (headOk_bytes _) (ys := ofBytes (43 :: (s ++ crlf))) (by simp [elemsA]) (by simp only [ofBytes_length, List.length_cons, List.length_append, crlf, List.length_nil]; omega) (by simp) ?_
      intro x1 h1 d1 g1 s1 t1
      apply EvOps.run
      · intro call; simp [hl]; exact rfl
      exact Ev.ret ⟨x1, by simp [Try.f63, hl], loud_if (fin _ _ _ _ g1 s1 (by simp) t1).2.2 (fin _ _ _ _ g1 s1 (by simp) t1)⟩
    refine Ev.seq (Ev.region ?_)
    apply EvOps.run
    · intro call; simp [hl, h8]; exact rfl
    refine Ev.cond (k == 1) (by simp [hl]) (fun c => ?_) (fun c1 => ?_)
    · simp only [beq_iff_eq] at c
      have he : encR (.mk k s n l) = 45 :: (s ++ crlf) := by simp only [encR, c, if_true, if_false, show ¬ ((1 : Int) = 0) by omega]
      rw [he] at hlen ⊢
      simp only [List.length_cons, List.length_append, crlf, List.length_nil] at hlen
      refine Ev.seq (Ev.region (EvOps.take 5 ?_))
      apply EvOps.run
      · intro call; simp [hl, h0, h3, show 1 + s.length ≤ 140737488355328 by omega, show s.length + 1 ≤ 140737488355328 by omega, show s.length + 1 + 2 ≤ 140737488355328 by omega, show 1 + s.length + 2 ≤ 140737488355328 by omega, show s.length + 2 + 1 ≤ 140737488355328 by omega]; exact rfl
      refine EvOps.appendB (x := x) (y := .str (45 :: (s ++ crlf))) rfl rfl (by simp) (by simp [hl]; exact rfl) Try.underlying43 Try.underlying9 rfl Ty.s5 Ty.b5 Ty.z5 rfl hg' (headOk_bytes _) (ys := ofBytes (45 :: (s ++ crlf))) (by simp [elemsA]) (by simp only [ofBytes_length, List.length_cons, List.length_append, crlf, List.length_nil]; omega) (by simp) ?_
      intro x1 h1 d1 g1 s1 t1
      apply EvOps.run
      · intro call; simp [hl]; exact rfl
      exact Ev.ret ⟨x1, by simp [Try.f63, hl], loud_if (fin _ _ _ _ g1 s1 (by simp) t1).2.2 (fin _ _ _ _ g1 s1 (by simp) t1)⟩
    refine Ev.seq (Ev.region ?_)
    apply EvOps.run
    · intro call; simp [hl, h8]; exact rfl
    refine Ev.cond (k == 2) (by simp [hl]) (fun c => ?_) (fun c2 => ?_)
    · simp only [beq_iff_eq] at c
      have he : encR (.mk k s n l) = 58 :: (decS n ++ crlf) := by simp only [encR, c, if_true, if_false, show ¬ ((2 : Int) = 0) by omega, show ¬ ((2 : Int) = 1) by omega]
      have hdl := dec_len n hn0 hn1
      rw [he] at hlen ⊢
      simp only [List.length_cons, List.length_append, crlf, List.length_nil] at hlen
      refine Ev.seq (Ev.region (EvOps.take 3 ?_))
      apply EvOps.run
      · intro call; simp [hl, h0, h3]; exact rfl
      refine EvOps.call rfl (by simp) (by simp [hl] <;> exact rfl) (by simp <;> exact rfl) (print_ok n hn0 hn1) ?_
      have hp := print_ok n hn0 hn1
      generalize decS n = q at hdl hlen ⊢
      refine EvOps.take 2 ?_
      apply EvOps.run
      · intro call; simp [hl, show 1 + q.length ≤ 140737488355328 by omega, show q.length + 1 ≤ 140737488355328 by omega, show q.length + 1 + 2 ≤ 140737488355328 by omega]; exact rfl
      refine EvOps.appendB (x := x) (y := .str (58 :: (q ++ crlf))) rfl rfl (by simp) (by simp [hl, h0]; exact rfl) Try.underlying43 Try.underlying9 rfl Ty.s5 Ty.b5 Ty.z5 rfl hg' (headOk_bytes _) (ys := ofBytes (58 :: (q ++ crlf))) (by simp [elemsA]) (by simp only [ofBytes_length, List.length_cons, List.length_append, crlf, List.length_nil]; omega) (by simp) ?_
      intro x1 h1 d1 g1 s1 t1
      apply EvOps.run
      · intro call; simp [hl]; exact rfl
      exact Ev.ret ⟨x1, by simp [Try.f63, hl], loud_if (fin _ _ _ _ g1 s1 (by simp) t1).2.2 (fin _ _ _ _ g1 s1 (by simp) t1)⟩
    refine Ev.seq (Ev.region ?_)
    apply EvOps.run
    · intro call; simp [hl, h8]; exact rfl
    refine Ev.cond (k == 3) (by simp [hl]) (fun c => ?_) (fun c3 => ?_)
    · simp only [beq_iff_eq] at c
      have he : encR (.mk k s n l) = 36 :: (decS (s.length : Int) ++ crlf ++ s ++ crlf) := by simp only [encR, c, if_true, if_false, show ¬ ((3 : Int) = 0) by omega, show ¬ ((3 : Int) = 1) by omega, show ¬ ((3 : Int) = 2) by omega]
      have hdl := dec_len (s.length : Int) (by omega) (by omega)
      rw [he] at hlen ⊢
      simp only [List.length_cons, List.length_append, crlf, List.length_nil] at hlen
      refine Ev.seq (Ev.region (EvOps.take 4 ?_))
      apply EvOps.run
      · intro call; simp [hl, h0, h3]; exact rfl
      refine EvOps.call rfl (by simp) (by simp [hl] <;> exact rfl) (by simp <;> exact rfl) (print_ok (s.length : Int) (by omega) (by omega)) ?_
      generalize decS (s.length : Int) = q at hdl hlen ⊢
      refine EvOps.take 6 ?_
      apply EvOps.run
      · intro call; simp [hl, h3, show 1 + q.length ≤ 140737488355328 by omega, show q.length + 1 ≤ 140737488355328 by omega, show q.length + 1 + 2 ≤ 140737488355328 by omega, show q.length + 2 + 1 + s.length ≤ 140737488355328 by omega, show q.length + (s.length + 2) + 1 ≤ 140737488355328 by omega, show q.length + 2 + 1 + s.length + 2 ≤ 140737488355328 by omega, show q.length + (s.length + 1 + 1) ≤ 140737488355325 by omega]; exact rfl
      refine EvOps.appendB (x := x) (y := .str (36 :: (q ++ crlf ++ s ++ crlf))) rfl rfl (by simp) (by simp [hl, h0, crlf]) Try.underlying43 Try.underlying9 rfl Ty.s5 Ty.b5 Ty.z5 rfl hg' (headOk_bytes _) (ys := ofBytes (36 :: (q ++ crlf ++ s ++ crlf))) (by simp [elemsA]) (by simp only [ofBytes_length, List.length_cons, List.length_append, crlf, List.length_nil]; omega) (by simp) ?_
      intro x1 h1 d1 g1 s1 t1
      apply EvOps.run
      · intro call; simp [hl]; exact rfl
      exact Ev.ret ⟨x1, by simp [Try.f63, hl], loud_if (fin _ _ _ _ g1 s1 (by simp) t1).2.2 (fin _ _ _ _ g1 s1 (by simp) t1)⟩
    refine Ev.seq (Ev.region ?_)
    apply EvOps.run
    · intro call; simp [hl, h8]; exact rfl
    refine Ev.cond (k == 5) (by simp [hl]) (fun c => ?_) (fun c5 => Ev.skip ?_)
    · simp only [beq_iff_eq] at c
      have he : encR (.mk k s n l) = 42 :: (decS (l.length : Int) ++ crlf ++ encRs l) := by simp only [encR, c, if_true, if_false, show ¬ ((5 : Int) = 0) by omega, show ¬ ((5 : Int) = 1) by omega, show ¬ ((5 : Int) = 2) by omega, show ¬ ((5 : Int) = 3) by omega]
      have hdl := dec_len (l.length : Int) (by omega) (by omega)
      rw [he] at hlen ⊢
      simp only [List.length_cons, List.length_append, crlf, List.length_nil] at hlen
      refine Ev.seq (Ev.region (EvOps.take 4 ?_))
      apply EvOps.run
      · intro call; simp [hl, h0, h3, rs]; exact rfl
      refine EvOps.call rfl (by simp) (by simp [hl] <;> exact rfl) (by simp <;> exact rfl) (print_ok (l.length : Int) (by omega) (by omega)) ?_
      generalize decS (l.length : Int) = q at hdl hlen ⊢
      refine EvOps.take 2 ?_
      apply EvOps.run
      · intro call; simp [hl, show 1 + q.length ≤ 140737488355328 by omega, show q.length + 1 ≤ 140737488355328 by omega, show q.length + 1 + 2 ≤ 140737488355328 by omega]; exact rfl
      refine EvOps.appendB (x := x) (y := .str (42 :: (q ++ crlf))) rfl rfl (by simp) (by simp [hl, h0]; exact rfl) Try.underlying43 Try.underlying9 rfl Ty.s5 Ty.b5 Ty.z5 rfl hg' (headOk_bytes _) (ys := ofBytes (42 :: (q ++ crlf))) (by simp [elemsA]) (by simp only [ofBytes_length, List.length_cons, List.length_append, crlf, List.length_nil]; omega) (by simp) ?_
      intro x1 h1 d1 g1 s1 t1
      have hw := fin _ _ _ _ g1 s1 (by simp) t1
      have h3' : h1[h.length]? = some (.cells [.int .i64 k, .str s, .int .i64 n, rs l]) := by
        rw [s1.old h.length (by simp) htok]; simp [rs]
      have hlh : h.length < h1.length := (List.getElem?_eq_some_iff.1 h3').1
      apply EvOps.keep (h' := h1) (d' := d1) (fun fr => fr.length = 72 ∧ slotAt fr 0 = some x1 ∧ slotAt fr 3 = some (.ptr h.length 0))
      · intro call; simp [hl]; exact rfl
      · exact ⟨by simp [hl], by simp [hl], by simp [h3]⟩
      clear t1 s1 g1 hl h0 h3 h8 c0 c1 c2 c3 hg' fr
      rintro fr ⟨hl, h0, h3⟩
      refine Ev.seq (Ev.seq (Ev.region ?_))
      apply EvOps.run
      · intro call; simp [hl, h3, h3', rs]; exact rfl
      refine Ev.block ?_
      refine Ev.loop (fun m st => ∃ fr hh x' d' i, st = ⟨fr, hh, d'⟩ ∧ fr.length = 72 ∧ slotAt fr 0 = some x' ∧ slotAt fr 59 = some (rs l) ∧ slotAt fr 60 = some (.int .i64 (l.length : Nat)) ∧ slotAt fr 61 = some (.int .i64 (i : Nat)) ∧ i ≤ l.length ∧ m = l.length - i ∧ Wrote x xs h (42 :: (q ++ crlf ++ encRs (l.take i))) x' hh d') ?_ l.length _ ?_
      · clear hl h0 h3 fr h3' hlh hw x1 h1 d1
        rintro m st ⟨fr, hh, x', d', i, rfl, hl, h0, h59, h60, h61, hi, rfl, hw⟩
        refine Ev.seq (Ev.region ?_)
        apply EvOps.run
        · intro call; simp [hl, h60, h61]; exact rfl
        refine Ev.seq (Ev.cond (decide (i < l.length)) (by simp [hl]) (fun hc => Ev.skip ?_) (fun hc => Ev.exit ?_))
        · simp only [decide_eq_true_eq] at hc
          have hq := encRs_len_take l i hc
          have ih := fun h x xs => ih i hc h x xs
          have hstep := encRs_take l i hc
          obtain ⟨k1, s1, n1, l1, e1⟩ : ∃ k1 s1 n1 l1, l[i] = R.mk k1 s1 n1 l1 := by cases l[i] with | mk a b c e => exact ⟨a, b, c, e, rfl⟩
          rw [e1] at ih hstep hq
          have ih := ih (hh ++ [.cells [.int .i64 k1, .str s1, .int .i64 n1, rs l1]]) x' (xs ++ 42 :: (q ++ crlf ++ encRs (l.take i))) (hw.1.push _) (by simp only [List.length_append, List.length_cons, crlf, List.length_nil]; omega)
          refine Ev.seq (Ev.block (Ev.seq (Ev.region ?_)))
          apply EvOps.run
          · intro call; simp [hl, h59, h61, rs, hc, e1, aR, splice]; exact rfl
          refine Ev.region (EvOps.take 2 ?_)
          apply EvOps.run
          · intro call; simp [hl, h0]; exact rfl
          refine EvOps.calli (first := []) (captured := []) (vs := [x', aR (.mk k1 s1 n1 l1)]) rfl (by simp) (by simp [hl]) (by simp [hl, aR]) ih ?_
          rintro v h2 d2 ⟨g2, st2, t2⟩
          apply EvOps.run
          · intro call; simp [hl]; exact rfl
          refine Ev.region ?_
          apply EvOps.run
          · intro call; simp [hl, h61, wrap_succ i (by omega)]; exact rfl
          refine ⟨l.length - (i + 1), by omega, _, h2, v, _, i + 1, rfl, by simp [hl], by simp [hl], by simp [h59], by simp [h60], by simp [hl], by omega, rfl, ?_, (hw.2.1.trans (Stays.push x' hh _)).trans st2, ?_⟩
          · rw [hstep]
            simp only [List.append_assoc, List.cons_append] at g2 ⊢
            exact g2
          · have := hw.2.1.len
            rcases t2 with t2 | ⟨j, e, t2⟩
            · left; rw [t2]; simp
            · right; exact ⟨j, e, by simp at t2; omega⟩
        · simp only [decide_eq_false_iff_not] at hc
          rw [List.take_of_length_le (by omega)] at hw
          refine Ev.seq (Ev.region ?_)
          apply EvOps.run
          · intro call; simp [hl, h0]; exact rfl
          exact Ev.ret ⟨x', by simp [Try.f63, hl], loud_if hw.2.2 hw⟩
      · exact ⟨_, h1, x1, d1, 0, rfl, by simp [hl], by simp [h0], by simp [hl, rs], by simp [hl], by simp [hl], by omega, rfl, by simpa [encRs] using hw⟩
    simp only [beq_eq_false_iff_ne, ne_eq] at c0 c1 c2 c3 c5
    have he : encR (.mk k s n l) = [36, 45, 49, 13, 10] := by simp only [encR, c0, c1, c2, c3, c5, if_false]
    rw [he] at hlen ⊢
    simp only [List.length_cons, List.length_nil] at hlen
    refine Ev.seq (Ev.region (EvOps.take 1 ?_))
    apply EvOps.run
    · intro call; simp [hl, h0]; exact rfl
    refine EvOps.appendB (x := x) (y := .str [36, 45, 49, 13, 10]) rfl rfl (by simp) (by simp [hl]) Try.underlying43 Try.underlying9 rfl Ty.s5 Ty.b5 Ty.z5 rfl hg' (headOk_bytes _) (ys := ofBytes [36, 45, 49, 13, 10]) (by simp [elemsA]) (by simp only [ofBytes_length, List.length_cons, List.length_nil]; omega) (by simp) ?_
    intro x1 h1 d1 g1 s1 t1
    apply EvOps.run
    · intro call; simp [hl]; exact rfl
    exact Ev.ret ⟨x1, by simp [Try.f63, hl], loud_if (fin _ _ _ _ g1 s1 (by simp) t1).2.2 (fin _ _ _ _ g1 s1 (by simp) t1)⟩
termination_by r => SizeOf.sizeOf r
end Go.Proofs.Ytnifldbmflkmpaa
