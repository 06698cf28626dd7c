/-
  Parts, one behind the other: Hc, Rb, Rc, Rd, Fa, Fb, Fc, Hd, He, Re, Rf, Rg.
-/
import Derived.Test.YtnifldbmflkmpaaMd
/-
  strings.IndexByte; resp.right and resp.Right.
-/
namespace Go.Proofs.Ytnifldbmflkmpaa
open Go Ev
set_option linter.unusedVariables false
set_option linter.unusedSimpArgs false
set_option maxRecDepth 10000
theorem idx103 (s : S) (c : Int) : Ret cfg 103 [.str s, .int .u8 c] (.int .i64 (Lib.indexByte s c.toNat.toUInt8)) :=
  Ret.of_prim (p := idxA) rfl (by simp) rfl (by simp)
theorem idx82 (s : S) (c : Int) : Ret cfg 82 [.str s, .int .u8 c] (.int .i64 (Lib.indexByte s c.toNat.toUInt8)) := by
  refine Ret.of_body rfl rfl Try.func82 rfl (by simp) (by simp) ?_
  refine Ev.seq (Ev.region ?_)
  apply EvOps.run
  · intro call; simp [Try.f82]; exact rfl
  refine Ev.seq (Ev.region (EvOps.take 2 ?_))
  apply EvOps.run
  · intro call; simp; exact rfl
  refine EvOps.call rfl (by simp) (by simp <;> exact rfl) (by simp <;> exact ⟨rfl, rfl⟩) (idx103 s c) ?_
  apply EvOps.run
  · intro call; simp; exact rfl
  exact Ev.ret ⟨_, by simp [Try.f82]; rfl, by simp⟩
theorem idx67 (s : S) (c : Int) : Ret cfg 67 [.str s, .int .u8 c] (.int .i64 (Lib.indexByte s c.toNat.toUInt8)) := by
  refine Ret.of_body rfl rfl Try.func67 rfl (by simp) (by simp) ?_
  refine Ev.seq (Ev.region ?_)
  apply EvOps.run
  · intro call; simp [Try.f67]; exact rfl
  refine Ev.seq (Ev.region (EvOps.take 2 ?_))
  apply EvOps.run
  · intro call; simp; exact rfl
  refine EvOps.call rfl (by simp) (by simp <;> exact rfl) (by simp <;> exact ⟨rfl, rfl⟩) (idx82 s c) ?_
  apply EvOps.run
  · intro call; simp; exact rfl
  exact Ev.ret ⟨_, by simp [Try.f67]; rfl, by simp⟩
theorem lineS_idx (s : S) : lineS s = (decide (Lib.indexByte s 13 < 0) && decide (Lib.indexByte s 10 < 0)) := by
  rw [idx_none, idx_none, lineS]
  induction s with
  | nil => rfl
  | cons b s ih =>
    simp only [List.all_cons, ih]
    cases (b != 13) <;> cases (b != 10) <;> simp
/-- The function that right hands on. -/
theorem clos_ok (d : Nat) (b : Nat) (h : Heap) (hb : h[b]? = some (.cells [.int .i64 (d : Nat)])) (hd : d < 2 ^ 60) (r : R) (v : Bool) (hr : Ret cfg 80 [aR r, .int .i64 ((d : Int) - 1)] (.bool v)) :
    RetI cfg 100 [aR r, .ptr b 0] h (fun w h' d' => w = .bool (!v) ∧ h' = h ∧ d' = false) := by
  obtain ⟨k, s, n, l⟩ := r
  refine RetI.of_body rfl rfl Try.func100 rfl ?_
  refine Ev.seq (Ev.region ?_)
  apply EvOps.run
  · intro call; simp [Try.f100, aR]; exact rfl
  refine Ev.seq (Ev.region (EvOps.take 3 ?_))
  apply EvOps.run
  · intro call; simp [heap_old hb, wrap_int ((d : Int) - 1) (by omega) (by omega)]; exact rfl
  refine EvOps.call rfl (by simp) (by simp <;> exact rfl) (by simp [aR]) hr ?_
  apply EvOps.run
  · intro call; simp; exact rfl
  exact Ev.ret ⟨_, by simp [Try.f100], quiet_if (by simp) ⟨rfl, rfl, rfl⟩⟩
set_option maxHeartbeats 2000000 in
theorem idxf_ok (d : Nat) (b : Nat) (h : Heap) (hb : h[b]? = some (.cells [.int .i64 (d : Nat)])) (hd : d < 2 ^ 60) (l : List R) (hl60 : l.length < 2 ^ 60) (hr : ∀ (i : Nat) (hi : i < l.length), Ret cfg 80 [aR l[i], .int .i64 ((d : Int) - 1)] (.bool (rightR (d - 1) l[i]))) :
    RetI cfg 110 [rs l, .func (.func 100) [] [.ptr b 0]] h (fun w h' d' => (∃ j : Int, w = .int .i64 j ∧ decide (0 ≤ j) = !rightRs (d - 1) l) ∧ h' = h ∧ d' = false) := by
  refine RetI.of_body rfl rfl Try.func110 rfl ?_
  refine Ev.seq (Ev.region ?_)
  apply EvOps.run
  · intro call; simp [Try.f110]; exact rfl
  refine Ev.seq (Ev.seq (Ev.region ?_))
  apply EvOps.run
  · intro call; simp [rs]; exact rfl
  refine Ev.block ?_
  refine Ev.loop (fun m st => ∃ fr i, st = ⟨fr, h, false⟩ ∧ fr.length = 19 ∧ slotAt fr 0 = some (rs l) ∧ slotAt fr 1 = some (.func (.func 100) [] [.ptr b 0]) ∧ slotAt fr 7 = some (.int .i64 (l.length : Nat)) ∧ slotAt fr 8 = some (.int .i64 (i : Nat)) ∧ i ≤ l.length ∧ m = l.length - i ∧ rightRs (d - 1) l = rightRs (d - 1) (l.drop i)) ?_ l.length _ ?_
  · rintro m st ⟨fr, i, rfl, hl, h0, h1, h7, h8, hi, rfl, hp⟩
    refine Ev.seq (Ev.region ?_)
    apply EvOps.run
    · intro call; simp [hl, h7, h8]; exact rfl
    refine Ev.seq (Ev.cond (decide (i < l.length)) (by simp [hl]) (fun hc => Ev.skip ?_) (fun hc => Ev.exit ?_))
    · simp only [decide_eq_true_eq] at hc
      obtain ⟨cs, a1, a2, a3⟩ := aR_agg l[i]
      have ih := clos_ok d b h hb hd l[i] _ (hr i hc)
      refine Ev.seq (Ev.block (Ev.seq (Ev.region ?_)))
      apply EvOps.run
      · intro call; simp [hl, h8]; exact rfl
      refine Ev.seq (Ev.region (EvOps.take 5 ?_))
      apply EvOps.run
      · intro call; simp [hl, h0, h1, h8, rs, hc, a1, a2]; exact rfl
      rw [a1] at ih
      refine EvOps.calli (first := []) (captured := [.ptr b 0]) (vs := [.agg cs]) rfl (by simp [hl]) (by simp) (by simp [hl]) ih ?_
      rintro _ _ _ ⟨rfl, rfl, rfl⟩
      apply EvOps.run
      · intro call; simp; exact rfl
      refine Ev.cond (!(rightR (d - 1) l[i])) (by simp [hl]) (fun he => ?_) (fun he => Ev.skip ?_)
      · refine Ev.seq (Ev.region ?_)
        apply EvOps.run
        · intro call; simp [hl]; exact rfl
        refine Ev.ret ⟨.int .i64 (i : Nat), by simp [Try.f110, hl], quiet_if (by simp) ⟨⟨_, rfl, ?_⟩, rfl, rfl⟩⟩
        simp only [Bool.not_eq_true'] at he
        rw [hp, rightRs_take _ _ _ hc, he]
        simp
      · refine Ev.region ?_
        apply EvOps.run
        · intro call; simp [hl, h8, wrap_succ i (by omega)]; exact rfl
        simp only [Bool.not_eq_false'] at he
        exact ⟨l.length - (i + 1), by omega, _, i + 1, rfl, by simp [hl], by simp [h0], by simp [h1], by simp [h7], by simp [hl], by omega, rfl, by rw [hp, rightRs_take _ _ _ hc, he, Bool.true_and]⟩
    · simp only [decide_eq_false_iff_not] at hc
      refine Ev.seq (Ev.region ?_)
      apply EvOps.run
      · intro call; simp [hl]; exact rfl
      refine Ev.ret ⟨.int .i64 (-1), by simp [Try.f110, hl], quiet_if (by simp) ⟨⟨_, rfl, ?_⟩, rfl, rfl⟩⟩
      rw [hp, List.drop_of_length_le (by omega)]
      simp [rightRs]
  · exact ⟨_, 0, rfl, by simp, by simp [rs], by simp, by simp [rs], by simp, by omega, rfl, by simp⟩
theorem contf_ok (d : Nat) (b : Nat) (h : Heap) (hb : h[b]? = some (.cells [.int .i64 (d : Nat)])) (hd : d < 2 ^ 60) (l : List R) (hl60 : l.length < 2 ^ 60) (hr : ∀ (i : Nat) (hi : i < l.length), Ret cfg 80 [aR l[i], .int .i64 ((d : Int) - 1)] (.bool (rightR (d - 1) l[i]))) :
    RetI cfg 99 [rs l, .func (.func 100) [] [.ptr b 0]] h (fun w h' d' => w = .bool (!rightRs (d - 1) l) ∧ h' = h ∧ d' = false) := by
  refine RetI.of_body rfl rfl Try.func99 rfl ?_
  refine Ev.seq (Ev.region ?_)
  apply EvOps.run
  · intro call; simp [Try.f99]; exact rfl
  refine Ev.seq (Ev.region (EvOps.take 2 ?_))
  apply EvOps.run
  · intro call; simp; exact rfl
  refine EvOps.calli (first := []) (captured := []) (vs := [rs l, .func (.func 100) [] [.ptr b 0]]) rfl (by simp) (by simp) (by simp) (idxf_ok d b h hb hd l hl60 hr) ?_
  rintro _ _ _ ⟨⟨j, rfl, hj⟩, rfl, rfl⟩
  apply EvOps.run
  · intro call; simp [hj]; exact rfl
  exact Ev.ret ⟨_, by simp [Try.f99], quiet_if (by simp) ⟨rfl, rfl, rfl⟩⟩
end Go.Proofs.Ytnifldbmflkmpaa

/-
  request.count, line, word.
-/
namespace Go.Proofs.Ytnifldbmflkmpaa
open Go Ev
set_option linter.unusedVariables false
set_option linter.unusedSimpArgs false
set_option maxRecDepth 10000
theorem count_ok (c : UInt8) (n : Nat) (least most : Int) (hn : n < 1000000000) (h0 : least ≤ n) (h1 : n ≤ most) :
    Ret cfg 88 [.str (c :: digs n), .int .u8 (c.toNat : Int), .int .i64 least, .int .i64 most] (.tuple [.int .i64 (n : Nat), .int .i64 0]) := by
  have hp := parse_ok n hn
  generalize digs n = D at *
  refine Ret.of_body rfl rfl Try.func88 rfl (by simp) (by simp) ?_
  refine Ev.seq (Ev.region ?_)
  apply EvOps.run
  · intro call; simp [Try.f88]; exact rfl
  refine Ev.seq (Ev.seq (Ev.region ?_))
  apply EvOps.run
  · intro call; simp; exact rfl
  refine Ev.cond false (by simp) (fun h => by simp at h) (fun _ => Ev.skip ?_)
  refine Ev.seq (Ev.region (EvOps.take 2 ?_))
  apply EvOps.run
  · intro call; simp [sliceA]; exact rfl
  refine EvOps.call rfl (by simp) (by simp <;> exact rfl) (by simp <;> exact rfl) hp ?_
  apply EvOps.run
  · intro call; simp; exact rfl
  refine Ev.seq (Ev.block (Ev.seq (Ev.region ?_)))
  apply EvOps.run
  · intro call; simp [show ¬ ((n : Int) < least) by omega]; exact rfl
  refine Ev.cond false (by simp) (fun h => by simp at h) (fun _ => ?_)
  refine Ev.seq (Ev.region ?_)
  apply EvOps.run
  · intro call; simp [show ¬ (most < (n : Int)) by omega]; exact rfl
  refine Ev.cond false (by simp) (fun h => by simp at h) (fun _ => Ev.skip ?_)
  refine Ev.seq (Ev.region ?_)
  apply EvOps.run
  · intro call; simp; exact rfl
  exact Ev.ret ⟨.tuple [.int .i64 (n : Nat), .int .i64 0], by simp [Try.f88], by simp⟩
theorem idx_at : ∀ (a r : S) (c : UInt8), (∀ b ∈ a, b ≠ c) → Lib.indexByte (a ++ c :: r) c = (a.length : Int)
  | [], r, c, _ => by simp [Lib.indexByte]
  | b :: a, r, c, h => by
    have ih := idx_at a r c fun b hb => h b (List.mem_cons_of_mem _ hb)
    have hb : (b == c) = false := by rw [beq_eq_false_iff_ne]; exact h b (by simp)
    have hstep : Lib.indexByte (b :: (a ++ c :: r)) c = if (b == c) = true then 0 else if (Lib.indexByte (a ++ c :: r) c == -1) = true then -1 else Lib.indexByte (a ++ c :: r) c + 1 := by rw [Lib.indexByte]
    rw [List.cons_append, hstep, hb, ih]
    have : (((a.length : Int)) == -1) = false := by rw [beq_eq_false_iff_ne]; omega
    simp [this]
theorem idx_no {a : S} {c : UInt8} (h : ∀ b ∈ a, b ≠ c) : Lib.indexByte a c < 0 := by
  have := idx_none a c
  rw [List.all_eq_true.2 (fun b hb => by simp [h b hb])] at this
  simpa using this
set_option maxHeartbeats 1000000 in
theorem line_ok (l rest : S) (hl10 : ∀ b ∈ l, b ≠ 10) (hlen : l.length + 2 ≤ 1026) (hb : rest.length < 2 ^ 40) :
    Ret cfg 86 [.str (l ++ 13 :: 10 :: rest)] (.tuple [.str l, .int .i64 ((l.length + 2 : Nat) : Int), .int .i64 0]) := by
  obtain ⟨s, hs⟩ : ∃ s, s = l ++ 13 :: 10 :: rest := ⟨_, rfl⟩
  have hsl : s.length = l.length + 2 + rest.length := by rw [hs]; simp; omega
  obtain ⟨k, hk⟩ : ∃ k : Nat, k = if 1026 < s.length then 1026 else s.length := ⟨_, rfl⟩
  have hk1 : k ≤ s.length := by rw [hk]; split <;> omega
  have hk2 : l.length + 2 ≤ k := by rw [hk]; split <;> omega
  have hidx : Lib.indexByte (s.take k) 10 = ((l.length + 1 : Nat) : Int) := by
    have e : s.take k = (l ++ [13]) ++ 10 :: (rest.take (k - (l.length + 2))) := by
      rw [hs, show l ++ 13 :: 10 :: rest = (l ++ [13, 10]) ++ rest by simp, List.take_append, List.take_of_length_le (by simp; omega)]
      simp
    rw [e, idx_at]
    · simp
    · intro b hb
      simp only [List.mem_append, List.mem_singleton] at hb
      rcases hb with hb | rfl
      · exact hl10 b hb
      · decide
  have h13 : s[l.length]? = some 13 := by rw [hs]; simp
  have htk : s.take l.length = l := by rw [hs]; simp
  have hx := idx67 (s.take k) 10
  rw [show (10 : Int).toNat.toUInt8 = 10 from rfl, hidx] at hx
  rw [← hs]
  clear hs hidx
  refine Ret.of_body rfl rfl Try.func86 rfl (by simp) (by simp) ?_
  refine Ev.seq (Ev.region ?_)
  apply EvOps.run
  · intro call; simp [Try.f86]; exact rfl
  refine Ev.seq (Ev.region (EvOps.take 5 ?_))
  by_cases h1026 : 1026 < s.length
  all_goals
    simp only [h1026, if_true, if_false] at hk
    subst hk
    apply EvOps.run
    · intro call; simp [minsA, minA, sliceA, show ((1026 : Int) < (s.length : Int)) ↔ (1026 < s.length) by omega, show ((1026 : Int) ≤ (s.length : Int)) ↔ (1026 ≤ s.length) by omega, h1026, hk1]; exact rfl
    refine EvOps.call rfl (by simp) (by simp <;> exact rfl) (by simp <;> exact rfl) hx ?_
    apply EvOps.run
    · intro call; simp; exact rfl
    refine Ev.seq (Ev.block (Ev.seq (Ev.region ?_)))
    apply EvOps.run
    · intro call; simp [show ¬ ((l.length : Int) + 1 < 0) by omega]; exact rfl
    refine Ev.cond false (by simp) (fun h => by simp at h) (fun _ => ?_)
    refine Ev.seq (Ev.region ?_)
    apply EvOps.run
    · intro call; simp [show ¬ ((l.length : Int) + 1 < 0) by omega]; exact rfl
    refine Ev.cond false (by simp) (fun h => by simp at h) (fun _ => ?_)
    refine Ev.seq (Ev.region ?_)
    apply EvOps.run
    · intro call; simp [wrap_nat l.length (by omega), h13]; exact rfl
    refine Ev.cond false (by simp) (fun h => by simp at h) (fun _ => Ev.skip ?_)
    refine Ev.seq (Ev.region ?_)
    apply EvOps.run
    · intro call; simp [sliceA, wrap_nat l.length (by omega), show l.length ≤ s.length by omega, htk, wrap_int ((l.length : Int) + 1 + 1) (by omega) (by omega)]; exact rfl
    exact Ev.ret ⟨.tuple [.str l, .int .i64 ((l.length : Int) + 1 + 1), .int .i64 0], by simp [Try.f86], by simp; omega⟩
theorem line_no (s : S) (h10 : ∀ b ∈ s, b ≠ 10) (hlen : s.length < 1026) : Ret cfg 86 [.str s] (.tuple [.str [], .int .i64 0, .int .i64 0]) := by
  have hx := idx67 s 10
  have hneg := idx_no h10
  rw [show (10 : Int).toNat.toUInt8 = 10 from rfl] at hx
  generalize Lib.indexByte s 10 = J at hx hneg
  refine Ret.of_body rfl rfl Try.func86 rfl (by simp) (by simp) ?_
  refine Ev.seq (Ev.region ?_)
  apply EvOps.run
  · intro call; simp [Try.f86]; exact rfl
  refine Ev.seq (Ev.region (EvOps.take 5 ?_))
  apply EvOps.run
  · intro call; simp [minsA, minA, sliceA, show ¬ ((1026 : Int) < (s.length : Int)) by omega]; exact rfl
  refine EvOps.call rfl (by simp) (by simp <;> exact rfl) (by simp <;> exact rfl) hx ?_
  apply EvOps.run
  · intro call; simp; exact rfl
  refine Ev.seq (Ev.block (Ev.seq (Ev.region ?_)))
  apply EvOps.run
  · intro call; simp [hneg, show ¬ ((1026 : Int) ≤ (s.length : Int)) by omega]; exact rfl
  refine Ev.cond false (by simp) (fun h => by simp at h) (fun _ => ?_)
  refine Ev.seq (Ev.region ?_)
  apply EvOps.run
  · intro call; simp [hneg]; exact rfl
  refine Ev.cond true (by simp) (fun _ => ?_) (fun h => by simp at h)
  refine Ev.seq (Ev.region ?_)
  apply EvOps.run
  · intro call; simp; exact rfl
  exact Ev.ret ⟨.tuple [.str [], .int .i64 0, .int .i64 0], by simp [Try.f86], by simp⟩
end Go.Proofs.Ytnifldbmflkmpaa

/-
  request.word, command: of what Print writes, whole or not.
-/
namespace Go.Proofs.Ytnifldbmflkmpaa
open Go Ev
set_option linter.unusedVariables false
set_option linter.unusedSimpArgs false
set_option maxRecDepth 10000
/-- A sign, a number, the line's end. -/
def headS (c : UInt8) (n : Nat) : S := c :: digs n
def encW (w : S) : S := headS 36 w.length ++ 13 :: 10 :: (w ++ [13, 10])
def encWs (ws : List S) : S := ws.flatMap encW
def encC (ws : List S) : S := headS 42 ws.length ++ 13 :: 10 :: encWs ws
theorem head_no10 (c : UInt8) (hc : c ≠ 10) (n : Nat) : ∀ b ∈ headS c n, b ≠ 10 := by
  intro b hb
  simp only [headS, List.mem_cons] at hb
  rcases hb with rfl | hb
  · exact hc
  · have := digs_in n b hb
    intro e; subst e; simp at this
theorem head_len (c : UInt8) (n : Nat) (h : n < 1000000000) : (headS c n).length ≤ 10 := by
  have := digs_length 9 n (by omega) (by omega)
  simp only [headS, List.length_cons]; omega
theorem encW_len (w : S) (h : w.length ≤ 4096) : (encW w).length = (headS 36 w.length).length + w.length + 4 := by
  simp only [encW, List.length_append, List.length_cons, List.length_nil]; omega
/-- What lies ahead of a whole line has no line's end. -/
theorem prefix_no10 {l t u r : S} (h10 : ∀ b ∈ l, b ≠ 10) (h : t ++ u = l ++ 13 :: 10 :: r) (hl : t.length < l.length + 2) : ∀ b ∈ t, b ≠ 10 := by
  have e : t = (l ++ [13]).take t.length := by
    have : t = (t ++ u).take t.length := by simp
    rw [this, h, show l ++ 13 :: 10 :: r = (l ++ [13]) ++ 10 :: r by simp, List.take_append_of_le_length (by simp; omega)]
    simp
  intro b hb
  rw [e] at hb
  have := List.mem_of_mem_take hb
  simp only [List.mem_append, List.mem_singleton] at this
  rcases this with h | rfl
  · exact h10 b h
  · decide
theorem prefix_split {l t u r : S} (h : t ++ u = l ++ 13 :: 10 :: r) (hl : l.length + 2 ≤ t.length) : ∃ t', t = l ++ 13 :: 10 :: t' ∧ t' ++ u = r := by
  refine ⟨t.drop (l.length + 2), ?_, ?_⟩
  · have e1 : t.take (l.length + 2) = l ++ [13, 10] := by
      have : (t ++ u).take (l.length + 2) = t.take (l.length + 2) := List.take_append_of_le_length hl
      rw [← this, h, show l ++ 13 :: 10 :: r = (l ++ [13, 10]) ++ r by simp, List.take_append_of_le_length (by simp)]
      exact List.take_of_length_le (by simp)
    conv => lhs; rw [← List.take_append_drop (l.length + 2) t, e1]
    simp
  · have : (t ++ u).drop (l.length + 2) = t.drop (l.length + 2) ++ u := List.drop_append_of_le_length hl
    rw [← this, h, show l ++ 13 :: 10 :: r = (l ++ [13, 10]) ++ r by simp, List.drop_append_of_le_length (by simp)]
    simp
theorem word_none (t : S) (h10 : ∀ b ∈ t, b ≠ 10) (hlen : t.length < 1026) : Ret cfg 89 [.str t] (.tuple [.str [], .int .i64 0, .int .i64 0]) := by
  have hln := line_no t h10 hlen
  refine Ret.of_body rfl rfl Try.func89 rfl (by simp) (by simp) ?_
  refine Ev.seq (Ev.region ?_)
  apply EvOps.run
  · intro call; simp [Try.f89]; exact rfl
  refine Ev.seq (Ev.region (EvOps.take 1 ?_))
  apply EvOps.run
  · intro call; simp; exact rfl
  refine EvOps.call rfl (by simp) (by simp <;> exact rfl) (by simp <;> exact rfl) hln ?_
  apply EvOps.run
  · intro call; simp; exact rfl
  refine Ev.seq (Ev.seq (Ev.region ?_))
  apply EvOps.run
  · intro call; simp; exact rfl
  refine Ev.cond true (by simp) (fun _ => ?_) (fun h => by simp at h)
  refine Ev.seq (Ev.region ?_)
  apply EvOps.run
  · intro call; simp; exact rfl
  exact Ev.ret ⟨.tuple [.str [], .int .i64 0, .int .i64 0], by simp [Try.f89], by simp⟩
set_option maxHeartbeats 2000000 in
/-- A word whose line is whole: its octets, or not enough of them. -/
theorem word_line (n : Nat) (hn : n ≤ 4096) (r : S) (hr : r.length < 2 ^ 30) (v : AV)
    (hv : (r.length < n + 2 ∧ v = .tuple [.str [], .int .i64 0, .int .i64 0]) ∨ (∃ (w r' : S), r = w ++ 13 :: 10 :: r' ∧ w.length = n ∧ v = .tuple [.str w, .int .i64 (((headS 36 n).length + n + 4 : Nat) : Int), .int .i64 0])) :
    Ret cfg 89 [.str (headS 36 n ++ 13 :: 10 :: r)] v := by
  have hh := head_len 36 n (by omega)
  have hln := line_ok (headS 36 n) r (head_no10 36 (by decide) n) (by omega) (by omega)
  have hct := count_ok 36 n 0 4096 (by omega) (by omega) (by omega)
  rw [show (36 : UInt8) :: digs n = headS 36 n from rfl] at hct
  simp only [show (((36 : UInt8).toNat : Nat) : Int) = 36 from rfl] at hct
  have hcl : v.clean 0 = true := by rcases hv with ⟨_, rfl⟩ | ⟨w, r', _, _, rfl⟩ <;> simp
  obtain ⟨at_, hat⟩ : ∃ at_, at_ = (headS 36 n).length + 2 := ⟨_, rfl⟩
  obtain ⟨s, hs⟩ : ∃ s, s = headS 36 n ++ 13 :: 10 :: r := ⟨_, rfl⟩
  have hsl : s.length = at_ + r.length := by rw [hs, hat]; simp; omega
  have hdr : s.drop at_ = r := by
    rw [hs, hat, show headS 36 n ++ 13 :: 10 :: r = (headS 36 n ++ [13, 10]) ++ r by simp, List.drop_append_of_le_length (by simp)]
    simp
  rw [← hs] at hln ⊢
  rw [← hat] at hln
  generalize headS 36 n = l at *
  refine Ret.of_body rfl rfl Try.func89 rfl (by simp) hcl ?_
  refine Ev.seq (Ev.region ?_)
  apply EvOps.run
  · intro call; simp [Try.f89]; exact rfl
  refine Ev.seq (Ev.region (EvOps.take 1 ?_))
  apply EvOps.run
  · intro call; simp; exact rfl
  refine EvOps.call rfl (by simp) (by simp <;> exact rfl) (by simp <;> exact rfl) hln ?_
  apply EvOps.run
  · intro call; simp; exact rfl
  have hat0 : ((at_ : Int) == 0) = false := by rw [beq_eq_false_iff_ne]; omega
  refine Ev.seq (Ev.seq (Ev.region ?_))
  apply EvOps.run
  · intro call; simp [hat0, show ¬ (at_ = 0) by omega]; exact rfl
  refine Ev.cond false (by simp) (fun h => by simp at h) (fun _ => Ev.skip ?_)
  refine Ev.seq (Ev.region (EvOps.take 1 ?_))
  apply EvOps.run
  · intro call; simp; exact rfl
  refine EvOps.call rfl (by simp) (by simp <;> exact rfl) (by simp <;> exact rfl) hct ?_
  apply EvOps.keep (h' := []) (d' := false) (fun fr => fr.length = 60 ∧ slotAt fr 0 = some (.str s) ∧ slotAt fr 6 = some (.int .i64 (at_ : Nat)) ∧ slotAt fr 7 = some (.int .i64 0) ∧ slotAt fr 8 = some (.int .i64 (n : Nat)))
  · intro call; simp; exact rfl
  · exact ⟨by simp, by simp, by simp, by simp, by simp⟩
  rintro fr ⟨hl, h0, h6, h7, h8⟩
  refine Ev.seq (Ev.block (Ev.seq (Ev.region ?_)))
  apply EvOps.run
  · intro call; simp [hl, h7]; exact rfl
  refine Ev.cond false (by simp [hl]) (fun h => by simp at h) (fun _ => ?_)
  have hw1 : IntKind.wrap .i64 ((at_ : Int) + (n : Int)) = (at_ : Int) + (n : Int) := wrap_int _ (by omega) (by omega)
  have hw2 : IntKind.wrap .i64 ((at_ : Int) + (n : Int) + 2) = (at_ : Int) + (n : Int) + 2 := wrap_int _ (by omega) (by omega)
  refine Ev.seq (Ev.region ?_)
  rcases hv with ⟨hshort, rfl⟩ | ⟨w, r', rfl, hwn, rfl⟩
  · apply EvOps.run
    · intro call; simp [hl, h0, h6, h8, hw1, hw2, show ((s.length : Int) < (at_ : Int) + (n : Int) + 2) by omega]; exact rfl
    refine Ev.cond true (by simp [hl]) (fun _ => ?_) (fun h => by simp at h)
    refine Ev.seq (Ev.region ?_)
    apply EvOps.run
    · intro call; simp [hl]; exact rfl
    exact Ev.ret ⟨.tuple [.str [], .int .i64 0, .int .i64 0], by simp [Try.f89, hl], by simp⟩
  · have hrl : s.length = at_ + n + 2 + r'.length := by rw [hsl]; simp [hwn]; omega
    apply EvOps.run
    · intro call; simp [hl, h0, h6, h8, hw1, hw2, show ¬ ((s.length : Int) < (at_ : Int) + (n : Int) + 2) by omega]; exact rfl
    refine Ev.cond false (by simp [hl]) (fun h => by simp at h) (fun _ => ?_)
    have hc1 : (s.take (at_ + n + 2)).drop (at_ + n) = [13, 10] := by
      rw [List.drop_take, ← List.drop_drop, hdr, ← hwn]
      simp [show at_ + w.length + 2 - (at_ + w.length) = 2 by omega]
    have hc2 : (s.take (at_ + n)).drop at_ = w := by
      rw [List.drop_take, hdr, ← hwn]
      simp [show at_ + w.length - at_ = w.length by omega]
    have en2 : ((at_ : Int) + (n : Int) + 2).toNat = at_ + n + 2 := by omega
    have en1 : ((at_ : Int) + (n : Int)).toNat = at_ + n := by omega
    refine Ev.seq (Ev.region ?_)
    apply EvOps.run
    · intro call; simp [hl, h0, h6, h8, hw1, hw2, sliceA, boundsA, show (0 : Int) ≤ (at_ : Int) + (n : Int) + 2 by omega, show (0 : Int) ≤ (at_ : Int) + (n : Int) by omega, show (at_ : Int) + (n : Int) + 2 ≤ (s.length : Int) by omega, show (at_ : Int) + (n : Int) ≤ (at_ : Int) + (n : Int) + 2 by omega, en1, en2, hc1]; exact rfl
    refine Ev.cond false (by simp [hl]) (fun h => by simp at h) (fun _ => Ev.skip ?_)
    refine Ev.seq (Ev.region ?_)
    apply EvOps.run
    · intro call; simp [hl, h0, h6, h8, hw1, hw2, sliceA, boundsA, show (0 : Int) ≤ (at_ : Int) + (n : Int) by omega, show (at_ : Int) + (n : Int) ≤ (s.length : Int) by omega, show (at_ : Int) ≤ (at_ : Int) + (n : Int) by omega, en1, hc2]; exact rfl
    exact Ev.ret ⟨.tuple [.str w, .int .i64 ((at_ : Int) + (n : Int) + 2), .int .i64 0], by simp [Try.f89, hl], by simp; omega⟩
theorem word_ok (w : S) (hw : w.length ≤ 4096) (rest : S) (hr : rest.length < 2 ^ 29) : Ret cfg 89 [.str (encW w ++ rest)] (.tuple [.str w, .int .i64 ((encW w).length : Nat), .int .i64 0]) := by
  have e : encW w ++ rest = headS 36 w.length ++ 13 :: 10 :: (w ++ 13 :: 10 :: rest) := by simp [encW]
  rw [e, encW_len w hw]
  exact word_line w.length hw _ (by simp; omega) _ (.inr ⟨w, rest, rfl, rfl, rfl⟩)
theorem word_part (w : S) (hw : w.length ≤ 4096) (t u : S) (h : t ++ u = encW w) (hu : u ≠ []) : Ret cfg 89 [.str t] (.tuple [.str [], .int .i64 0, .int .i64 0]) := by
  have hh := head_len 36 w.length (by omega)
  have hul : 0 < u.length := List.length_pos_iff.2 hu
  have hlen : t.length + u.length = (encW w).length := by rw [← h, List.length_append]
  rw [encW_len w hw] at hlen
  unfold encW at h
  by_cases hl : t.length < (headS 36 w.length).length + 2
  · exact word_none t (prefix_no10 (head_no10 36 (by decide) _) h hl) (by omega)
  · obtain ⟨t', rfl, h2⟩ := prefix_split h (by omega)
    have h3 : t'.length + u.length = w.length + 2 := by rw [← List.length_append, h2]; simp
    exact word_line w.length hw t' (by omega) _ (.inl ⟨by omega, rfl⟩)
end Go.Proofs.Ytnifldbmflkmpaa

/-
  request.command: of what Print writes, whole or not.
-/
namespace Go.Proofs.Ytnifldbmflkmpaa
open Go Ev
set_option linter.unusedVariables false
set_option linter.unusedSimpArgs false
set_option maxRecDepth 10000
theorem encWs_take (ws : List S) (i : Nat) (h : i < ws.length) : encWs (ws.take (i + 1)) = encWs (ws.take i) ++ encW ws[i] := by
  rw [List.take_add_one, List.getElem?_eq_getElem h]
  simp only [encWs, Option.toList, List.flatMap_append, List.flatMap_cons, List.flatMap_nil, List.append_nil]
theorem strs_take (ws : List S) (i : Nat) (h : i < ws.length) : (ws.take i).map AV.str ++ [AV.str ws[i]] = (ws.take (i + 1)).map AV.str := by
  rw [List.take_add_one, List.getElem?_eq_getElem h, List.map_append]; rfl
theorem cmd_none (t : S) (h10 : ∀ b ∈ t, b ≠ 10) (hlen : t.length < 1026) : Ret cfg 75 [.str t] (.tuple [strs [], .int .i64 0, .int .i64 0]) := by
  have hln := line_no t h10 hlen
  refine Ret.of_body rfl rfl Try.func75 rfl (by simp) (by simp) ?_
  refine Ev.seq (Ev.region ?_)
  apply EvOps.run
  · intro call; simp [Try.f75]; exact rfl
  refine Ev.seq (Ev.region (EvOps.take 1 ?_))
  apply EvOps.run
  · intro call; simp; exact rfl
  refine EvOps.call rfl (by simp) (by simp <;> exact rfl) (by simp <;> exact rfl) hln ?_
  apply EvOps.run
  · intro call; simp; exact rfl
  refine Ev.seq (Ev.seq (Ev.region ?_))
  apply EvOps.run
  · intro call; simp; exact rfl
  refine Ev.cond true (by simp) (fun _ => ?_) (fun h => by simp at h)
  refine Ev.seq (Ev.region ?_)
  apply EvOps.run
  · intro call; simp; exact rfl
  exact Ev.ret ⟨.tuple [.nils, .int .i64 0, .int .i64 0], by simp [Try.f75], by simp [strs]⟩
set_option maxHeartbeats 4000000 in
theorem cmd_list (ws : List S) (hw : ∀ w ∈ ws, w.length ≤ 4096) (h1 : 1 ≤ ws.length) (h128 : ws.length ≤ 128) (J : Nat) (hJ : J ≤ ws.length) (T : S) (hT : T.length < 2 ^ 20) (hE : (encWs (ws.take J)).length < 2 ^ 25)
    (hcase : J = ws.length ∨ (∃ h : J < ws.length, ∃ u : S, T ++ u = encW ws[J] ∧ u ≠ [])) :
    Ret cfg 75 [.str (headS 42 ws.length ++ 13 :: 10 :: (encWs (ws.take J) ++ T))] (if J = ws.length then .tuple [strs ws, .int .i64 (((headS 42 ws.length).length + 2 + (encWs ws).length : Nat) : Int), .int .i64 0] else .tuple [strs [], .int .i64 0, .int .i64 0]) := by
  have hh := head_len 42 ws.length (by omega)
  have hln := line_ok (headS 42 ws.length) (encWs (ws.take J) ++ T) (head_no10 42 (by decide) _) (by omega) (by simp; omega)
  have hct := count_ok 42 ws.length 1 128 (by omega) (by omega) (by omega)
  rw [show (42 : UInt8) :: digs ws.length = headS 42 ws.length from rfl] at hct
  simp only [show (((42 : UInt8).toNat : Nat) : Int) = 42 from rfl] at hct
  obtain ⟨at_, hat⟩ : ∃ at_, at_ = (headS 42 ws.length).length + 2 := ⟨_, rfl⟩
  obtain ⟨s, hs⟩ : ∃ s, s = headS 42 ws.length ++ 13 :: 10 :: (encWs (ws.take J) ++ T) := ⟨_, rfl⟩
  have hsl : s.length = at_ + (encWs (ws.take J)).length + T.length := by rw [hs, hat]; simp; omega
  have hdr : s.drop at_ = encWs (ws.take J) ++ T := by
    rw [hs, hat, show headS 42 ws.length ++ 13 :: 10 :: (encWs (ws.take J) ++ T) = (headS 42 ws.length ++ [13, 10]) ++ (encWs (ws.take J) ++ T) by simp, List.drop_append_of_le_length (by simp)]
    simp
  rw [← hs, ← hat] at hln ⊢
  have hhead : headS 42 ws.length = 42 :: digs ws.length := rfl
  rw [hhead] at hln hct
  generalize digs ws.length = D at hln hct
  clear hs hhead
  refine Ret.of_body rfl rfl Try.func75 rfl (by simp) (by split <;> simp) ?_
  refine Ev.seq (Ev.region ?_)
  apply EvOps.run
  · intro call; simp [Try.f75]; exact rfl
  refine Ev.seq (Ev.region (EvOps.take 1 ?_))
  apply EvOps.run
  · intro call; simp; exact rfl
  refine EvOps.call rfl (by simp) (by simp <;> exact rfl) (by simp <;> exact rfl) hln ?_
  apply EvOps.keep (h' := []) (d' := false) (fun fr => fr.length = 79 ∧ slotAt fr 0 = some (.str s) ∧ slotAt fr 5 = some (.str (42 :: D)) ∧ slotAt fr 6 = some (.int .i64 (at_ : Nat)) ∧ slotAt fr 7 = some (.int .i64 0))
  · intro call; simp; exact rfl
  · exact ⟨by simp, by simp, by simp, by simp, by simp⟩
  rintro fr ⟨hl, h0, h5, h6, h7⟩
  have hat0 : ((at_ : Int) == 0) = false := by rw [beq_eq_false_iff_ne]; omega
  refine Ev.seq (Ev.seq (Ev.region ?_))
  apply EvOps.run
  · intro call; simp [hl, h6, h7, hat0, show ¬ (at_ = 0) by omega]; exact rfl
  refine Ev.cond false (by simp [hl]) (fun h => by simp at h) (fun _ => Ev.skip ?_)
  refine Ev.seq (Ev.seq (Ev.region ?_))
  apply EvOps.run
  · intro call; simp [hl, h5]; exact rfl
  refine Ev.cond false (by simp [hl]) (fun h => by simp at h) (fun _ => Ev.skip ?_)
  refine Ev.seq (Ev.region (EvOps.take 1 ?_))
  apply EvOps.run
  · intro call; simp [hl, h5]; exact rfl
  refine EvOps.call rfl (by simp) (by simp [hl] <;> exact rfl) (by simp <;> exact rfl) hct ?_
  apply EvOps.keep (h' := []) (d' := false) (fun fr => fr.length = 79 ∧ slotAt fr 0 = some (.str s) ∧ slotAt fr 6 = some (.int .i64 (at_ : Nat)) ∧ slotAt fr 7 = some (.int .i64 0) ∧ slotAt fr 10 = some (.int .i64 (ws.length : Nat)))
  · intro call; simp [hl]; exact rfl
  · exact ⟨by simp [hl], by simp [h0], by simp [h6], by simp [hl], by simp [hl]⟩
  clear hl h0 h5 h6 h7 fr
  rintro fr ⟨hl, h0, h6, h7, h10⟩
  refine Ev.seq (Ev.seq (Ev.region ?_))
  apply EvOps.run
  · intro call; simp [hl, h7]; exact rfl
  refine Ev.cond false (by simp [hl]) (fun h => by simp at h) (fun _ => Ev.skip ?_)
  refine Ev.seq (Ev.region ?_)
  apply EvOps.run
  · intro call; simp [hl]; exact rfl
  refine Ev.seq (Ev.seq (Ev.region ?_))
  apply EvOps.run
  · intro call; simp [hl, h10]; exact rfl
  refine Ev.block ?_
  refine Ev.loop (fun m st => ∃ (fr : List AV) (hh : Heap) (out : AV) (i p : Nat), st = ⟨fr, hh, false⟩ ∧ fr.length = 79 ∧ slotAt fr 0 = some (.str s) ∧ slotAt fr 6 = some (.int .i64 (p : Nat)) ∧ slotAt fr 11 = some out ∧ Grow 1 hh out ((ws.take i).map .str) ∧ slotAt fr 51 = some (.int .i64 (ws.length : Nat)) ∧ slotAt fr 52 = some (.int .i64 (i : Nat)) ∧ i ≤ J ∧ m = ws.length - i ∧ p = at_ + (encWs (ws.take i)).length ∧ p ≤ s.length ∧ s.drop p = (encWs (ws.take J)).drop (encWs (ws.take i)).length ++ T) ?_ ws.length _ ?_
  · clear hl h0 h6 h7 h10 fr
    rintro m st ⟨fr, hh2, out, i, p, rfl, hl, h0, h6, h11, hg, h51, h52, hi, rfl, hp, hps, hdrop⟩
    refine Ev.seq (Ev.region ?_)
    apply EvOps.run
    · intro call; simp [hl, h51, h52]; exact rfl
    refine Ev.seq (Ev.cond (decide (i < ws.length)) (by simp [hl]) (fun hc => Ev.skip ?_) (fun hc => Ev.exit ?_))
    · simp only [decide_eq_true_eq] at hc
      refine Ev.seq (Ev.block (Ev.seq (Ev.region (EvOps.take 3 ?_))))
      apply EvOps.run
      · intro call; simp [hl, h0, h6, sliceA, hps]; exact rfl
      by_cases hiJ : i < J
      · -- a whole word
        have hstep : encWs (ws.take J) = encWs (ws.take i) ++ encW ws[i] ++ (encWs (ws.take J)).drop (encWs (ws.take (i + 1))).length := by
          rw [← encWs_take ws i hc]
          have e : encWs (ws.take J) = encWs (ws.take (i + 1)) ++ encWs ((ws.take J).drop (i + 1)) := by
            conv => lhs; rw [← List.take_append_drop (i + 1) (ws.take J)]
            rw [List.take_take, Nat.min_eq_left (by omega)]
            simp [encWs]
          rw [e]
          simp
        have hwd : s.drop p = encW ws[i] ++ ((encWs (ws.take J)).drop (encWs (ws.take (i + 1))).length ++ T) := by
          rw [hdrop]
          conv => lhs; rw [hstep]
          rw [List.append_assoc, List.drop_append_of_le_length (by simp)]
          simp
        have hwl := hw ws[i] (List.getElem_mem hc)
        have hel := encW_len ws[i] hwl
        have hh36 := head_len 36 ws[i].length (by omega)
        have hwo := word_ok ws[i] hwl ((encWs (ws.take J)).drop (encWs (ws.take (i + 1))).length ++ T) (by simp; omega)
        rw [← hwd] at hwo
        have hple : p + (encW ws[i]).length ≤ s.length := by
          have := congrArg List.length hwd
          rw [List.length_drop, List.length_append] at this
          omega
        refine EvOps.call rfl (by simp) (by simp [hl] <;> exact rfl) (by simp <;> exact rfl) hwo ?_
        have hne0 : (((encW ws[i]).length : Int) == 0) = false := by rw [beq_eq_false_iff_ne]; omega
        apply EvOps.keep (h' := hh2) (d' := false) (fun fr => fr.length = 79 ∧ slotAt fr 0 = some (.str s) ∧ slotAt fr 6 = some (.int .i64 (p : Nat)) ∧ slotAt fr 11 = some out ∧ slotAt fr 51 = some (.int .i64 (ws.length : Nat)) ∧ slotAt fr 52 = some (.int .i64 (i : Nat)) ∧ slotAt fr 12 = some (.str ws[i]) ∧ slotAt fr 13 = some (.int .i64 ((encW ws[i]).length : Nat)) ∧ slotAt fr 14 = some (.int .i64 0))
        · intro call; simp [hl]; exact rfl
        · exact ⟨by simp [hl], by simp [h0], by simp [h6], by simp [h11], by simp [h51], by simp [h52], by simp [hl], by simp [hl], by simp [hl]⟩
        clear hl h0 h6 h11 h51 h52 fr
        rintro fr ⟨hl, h0, h6, h11, h51, h52, h12, h13, h14⟩
        refine Ev.seq (Ev.seq (Ev.region ?_))
        apply EvOps.run
        · intro call; simp [hl, h13, h14, hne0, show ¬ (encW ws[i] = []) by intro e; rw [e] at hel; simp at hel]; exact rfl
        refine Ev.cond false (by simp [hl]) (fun h => by simp at h) (fun _ => Ev.skip ?_)
        refine Ev.seq (Ev.region (EvOps.take 3 ?_))
        apply EvOps.run
        · intro call; simp [hl, h11, h12, buildSliceA]; exact rfl
        refine EvOps.append (x := out) (y := .list [.str ws[i]] true (some 1) none) rfl rfl (by simp) (by simp [hl]) Try.underlying24 Try.underlying24 rfl Ty.s9 Ty.b9 Ty.z9 rfl hg (headOk_strs _) (ys := [.str ws[i]]) (by simp [elemsA]) (by simp only [List.length_map, List.length_singleton, List.length_take]; omega) ?_
        intro out1 h1' hg1 hst
        rw [strs_take ws i hc] at hg1
        apply EvOps.run
        · intro call; simp [hl]; exact rfl
        refine Ev.region ?_
        apply EvOps.run
        · intro call; simp [hl, h6, h13, wrap_int ((p : Int) + ((encW ws[i]).length : Int)) (by omega) (by omega)]; exact rfl
        refine Ev.region ?_
        apply EvOps.run
        · intro call; simp [hl, h52, wrap_succ i (by omega)]; exact rfl
        refine ⟨ws.length - (i + 1), by omega, _, h1', out1, i + 1, p + (encW ws[i]).length, rfl, by simp [hl], by simp [h0], by simp [hl], by simp [hl], hg1, by simp [h51], by simp [hl], by omega, rfl, ?_, hple, ?_⟩
        · rw [encWs_take ws i hc, List.length_append]; omega
        · rw [← List.drop_drop, hwd]
          simp
      · -- the word that is not whole
        have hiJ2 : i = J := by omega
        subst hiJ2
        rw [List.drop_length, List.nil_append] at hdrop
        rcases hcase with hcc | ⟨hlt, u, hu1, hu2⟩
        · omega
        · have hwl := hw ws[i] (List.getElem_mem hc)
          have hwo := word_part ws[i] hwl T u hu1 hu2
          rw [← hdrop] at hwo
          refine EvOps.call rfl (by simp) (by simp [hl] <;> exact rfl) (by simp <;> exact rfl) hwo ?_
          apply EvOps.run
          · intro call; simp [hl]; exact rfl
          refine Ev.seq (Ev.seq (Ev.region ?_))
          apply EvOps.run
          · intro call; simp [hl]; exact rfl
          refine Ev.cond true (by simp [hl]) (fun _ => ?_) (fun h => by simp at h)
          refine Ev.seq (Ev.region ?_)
          apply EvOps.run
          · intro call; simp [hl]; exact rfl
          refine Ev.ret ⟨.tuple [.nils, .int .i64 0, .int .i64 0], by simp [Try.f75, hl], ?_⟩
          rw [if_neg (by omega)]
          simp [strs]
    · simp only [decide_eq_false_iff_not] at hc
      have hiJ : i = J := by omega
      have hJl : J = ws.length := by omega
      subst hiJ
      rw [List.take_of_length_le (by omega)] at hg hp
      refine Ev.seq (Ev.region ?_)
      apply EvOps.run
      · intro call; simp [hl, h6, h11]; exact rfl
      refine Ev.ret ⟨.tuple [out, .int .i64 (p : Nat), .int .i64 0], by simp [Try.f75, hl], ?_⟩
      rw [if_pos hJl]
      simp only [strip_tuple, stripL_cons, stripL_nil, hg.strip, strip_int, stripL_strs, strs, hp]
  · exact ⟨_, _, _, 0, at_, rfl, by simp [hl], by simp [h0], by simp [h6], by simp [hl], Grow.nils _ _, by simp [hl], by simp [hl], by omega, rfl, by simp [encWs], by omega, by simpa [encWs] using hdr⟩
end Go.Proofs.Ytnifldbmflkmpaa

/-
  The functions of the set laws, as the evaluator runs them.
-/
namespace Go.Proofs.Ytnifldbmflkmpaa
open Go Ev
set_option linter.unusedVariables false
set_option linter.unusedSimpArgs false
set_option maxRecDepth 10000
def hasS (ss : List S) (x : S) : Bool := ss.any (· == x)
theorem any_take_succ {α : Type} (p : α → Bool) (l : List α) (i : Nat) (h : i < l.length) : (l.take (i + 1)).any p = ((l.take i).any p || p l[i]) := by
  rw [List.take_add_one, List.getElem?_eq_getElem h, List.any_append]; simp only [Option.toList_some, List.any_cons, List.any_nil, Bool.or_false]
theorem has_ok (ss : List S) (x : S) (hb : ss.length < 2 ^ 60) : Ret cfg 53 [strs ss, .str x] (.bool (hasS ss x)) := by
  refine Ret.of_body rfl rfl Try.func53 rfl (by simp) (by simp) ?_
  refine Ev.seq (Ev.region ?_)
  apply EvOps.run
  · intro call; simp [Try.f53]; exact rfl
  refine Ev.seq (Ev.seq (Ev.region ?_))
  apply EvOps.run
  · intro call; simp; exact rfl
  refine Ev.block ?_
  refine Ev.loop (fun m st => ∃ fr i, st = ⟨fr, [], false⟩ ∧ fr.length = 18 ∧ slotAt fr 0 = some (strs ss) ∧ slotAt fr 1 = some (.str x) ∧ slotAt fr 5 = some (.int .i64 (i : Nat)) ∧ i ≤ ss.length ∧ m = ss.length - i ∧ (ss.take i).any (· == x) = false) ?_ ss.length _ ?_
  · rintro m st ⟨fr, i, rfl, hl, h0, h1, h5, hi, rfl, hp⟩
    refine Ev.seq (Ev.seq (Ev.region ?_))
    apply EvOps.run
    · intro call; simp [hl, h0, h1, h5, strs]; exact rfl
    refine Ev.cond _ (by simp [hl]; rfl) (fun hc => Ev.skip ?_) (fun hc => Ev.exit ?_)
    · simp at hc
      refine Ev.seq (Ev.block (Ev.seq (Ev.region ?_)))
      apply EvOps.run
      · intro call; simp [hl, h0, h1, h5, strs, hc]; exact rfl
      refine Ev.cond _ (by simp [hl]; rfl) (fun he => ?_) (fun he => Ev.skip ?_)
      · refine Ev.seq (Ev.region ?_)
        apply EvOps.run
        · intro call; simp [hl]; exact rfl
        refine Ev.ret ?_
        refine ⟨.bool true, by simp [hl], ?_⟩
        have : hasS ss x = true := by simp only [hasS, List.any_eq_true]; exact ⟨_, List.getElem_mem hc, he⟩
        rw [this, strip_bool]
      · refine Ev.region ?_
        apply EvOps.run
        · intro call; simp [hl, h5, wrap_succ i (by omega)]; exact rfl
        exact ⟨ss.length - (i + 1), by omega, _, i + 1, rfl, by simp [hl], by simp [h0], by simp [h1], by simp [hl], by omega, rfl, by rw [any_take_succ _ _ _ hc, hp, he]; rfl⟩
    · simp at hc
      refine Ev.seq (Ev.region ?_)
      apply EvOps.run
      · intro call; simp [hl]; exact rfl
      refine Ev.ret ⟨.bool false, by simp [hl], ?_⟩
      have : hasS ss x = false := by rw [← hp, hasS, List.take_of_length_le (by omega)]
      rw [this, strip_bool]
  · exact ⟨_, 0, rfl, by simp, by simp, by simp, by simp, by omega, rfl, by simp⟩

theorem less_ok (a b : S) (hb : a.length < 2 ^ 60) : Ret cfg 79 [.str a, .str b] (.bool (Op.bytesLess a b)) := by
  refine Ret.of_body rfl rfl Try.func79 rfl (by simp) (by simp) ?_
  refine Ev.seq (Ev.region ?_)
  apply EvOps.run
  · intro call; simp [Try.f79]; exact rfl
  refine Ev.seq (Ev.seq (Ev.region ?_))
  apply EvOps.run
  · intro call; simp; exact rfl
  refine Ev.block ?_
  refine Ev.loop (fun m st => ∃ fr i, st = ⟨fr, [], false⟩ ∧ fr.length = 37 ∧ slotAt fr 0 = some (.str a) ∧ slotAt fr 1 = some (.str b) ∧ slotAt fr 5 = some (.int .i64 (i : Nat)) ∧ i ≤ a.length ∧ i ≤ b.length ∧ m = a.length - i ∧ Op.bytesLess a b = Op.bytesLess (a.drop i) (b.drop i)) ?_ a.length _ ?_
  · rintro m st ⟨fr, i, rfl, hl, h0, h1, h5, hia, hib, rfl, hp⟩
    have fin : ∀ fr' : List AV, fr'.length = 37 → slotAt fr' 0 = some (.str a) → slotAt fr' 1 = some (.str b) → (i = a.length ∨ i = b.length) →
        Ev cfg 0 ((Try.f79.body.get rfl) |> fun c => match c with | .seq _ (.seq _ d) => d | _ => .skip) ⟨fr', [], false⟩ (Done cfg Try.f79 (.bool (Op.bytesLess a b))) := by
      intro fr' hl' g0 g1 hd
      refine Ev.seq (Ev.region ?_)
      apply EvOps.run
      · intro call; simp [hl', g0, g1]; exact rfl
      refine Ev.ret ⟨.bool (decide (a.length < b.length)), by simp [Try.f79, hl'], ?_⟩
      rw [strip_bool, hp]
      rcases hd with rfl | rfl
      · rw [List.drop_of_length_le (Nat.le_refl _)]
        cases hq : b.drop a.length with
        | nil => simp at hq; simp [Op.bytesLess]; omega
        | cons y l => have := congrArg List.length hq; simp at this; simp [Op.bytesLess]; omega
      · rw [List.drop_of_length_le (l := b) (Nat.le_refl _)]
        cases hq : a.drop b.length <;> simp [Op.bytesLess] <;> omega
    by_cases ha : i < a.length
    · refine Ev.seq (Ev.seq (Ev.region ?_))
      apply EvOps.run
      · intro call; simp [hl, h0, h1, h5, ha]; exact rfl
      refine Ev.cond _ (by simp [hl]; rfl) (fun hc => Ev.skip ?_) (fun hc => Ev.exit ?_)
      · simp at hc
        refine Ev.seq (Ev.block (Ev.seq (Ev.region ?_)))
        apply EvOps.run
        · intro call; simp [hl, h0, h1, h5, ha, hc]; exact rfl
        have hda : a.drop i = a[i] :: a.drop (i + 1) := List.drop_eq_getElem_cons ha
        have hdb : b.drop i = b[i] :: b.drop (i + 1) := List.drop_eq_getElem_cons hc
        refine Ev.cond _ (by simp [hl]; rfl) (fun he => ?_) (fun he => Ev.skip ?_)
        · refine Ev.seq (Ev.region ?_)
          apply EvOps.run
          · intro call; simp [hl, h0, h1, h5, ha, hc]; exact rfl
          refine Ev.ret ⟨_, by simp [hl]; rfl, ?_⟩
          rw [strip_bool, hp, hda, hdb]
          simp only [Op.bytesLess]
          have hne : (a[i] == b[i]) = false := by
            cases hq : a[i] == b[i] with
            | false => rfl
            | true => simp only [beq_iff_eq] at hq; simp [hq] at he
          simp [hne, UInt8.lt_iff_toNat_lt]
        · refine Ev.region ?_
          apply EvOps.run
          · intro call; simp [hl, h5, wrap_succ i (by omega)]; exact rfl
          refine ⟨a.length - (i + 1), by omega, _, i + 1, rfl, by simp [hl], by simp [h0], by simp [h1], by simp [hl], by omega, by omega, rfl, ?_⟩
          rw [hp, hda, hdb]
          have : a[i] = b[i] := by
            apply UInt8.toNat_inj.1
            have := he
            simp at this
            omega
          simp [Op.bytesLess, this]
      · simp at hc
        exact fin _ (by simp [hl]) (by simp [h0]) (by simp [h1]) (.inr (by omega))
    · refine Ev.seq (Ev.seq (Ev.region ?_))
      apply EvOps.run
      · intro call; simp [hl, h0, h1, h5, ha]; exact rfl
      refine Ev.cond _ (by simp [hl]; rfl) (fun hc => by simp at hc) (fun hc => Ev.exit ?_)
      exact fin _ (by simp [hl]) (by simp [h0]) (by simp [h1]) (.inl (by omega))
  · exact ⟨_, 0, rfl, by simp, by simp, by simp, by simp, by omega, by omega, rfl, by simp⟩
end Go.Proofs.Ytnifldbmflkmpaa

/-
  The functions of the set laws, as the evaluator runs them.
-/
namespace Go.Proofs.Ytnifldbmflkmpaa
open Go Ev
set_option linter.unusedVariables false
set_option linter.unusedSimpArgs false
set_option maxRecDepth 10000
abbrev lt (a b : S) : Bool := Op.bytesLess a b
def putS (ss : List S) (x : S) : List S := if hasS ss x then ss else ss.takeWhile (lt · x) ++ x :: ss.dropWhile (lt · x)
theorem split_at {α : Type} (p : α → Bool) : ∀ (l : List α) (i : Nat), i ≤ l.length → (l.take i).all p = true → (∀ h : i < l.length, p l[i] = false) → l.takeWhile p = l.take i ∧ l.dropWhile p = l.drop i
  | [], i, hi, _, _ => by simp at hi; subst hi; simp
  | a :: l, 0, _, _, hn => by have := hn (by simp); simp at this; simp [List.takeWhile_cons, List.dropWhile_cons, this]
  | a :: l, i + 1, hi, ha, hn => by
    simp only [List.take_succ_cons, List.all_cons, Bool.and_eq_true] at ha
    have := split_at p l i (by simpa using hi) ha.2 (fun h => by have := hn (by simpa using h); simpa using this)
    simp [List.takeWhile_cons, List.dropWhile_cons, ha.1, this]
theorem all_take_succ {α : Type} (p : α → Bool) (l : List α) (i : Nat) (h : i < l.length) : (l.take (i + 1)).all p = ((l.take i).all p && p l[i]) := by
  rw [List.take_add_one, List.getElem?_eq_getElem h, List.all_append]; simp only [Option.toList_some, List.all_cons, List.all_nil, Bool.and_true]
theorem map_take_succ (l : List S) (i : Nat) (h : i < l.length) : (l.take i).map AV.str ++ [.str l[i]] = (l.take (i + 1)).map .str := by
  rw [List.take_add_one, List.getElem?_eq_getElem h, List.map_append]; rfl

theorem put_ok (ss : List S) (x : S) (hb : ss.length < 2 ^ 40) (hx : ∀ s ∈ ss, s.length < 2 ^ 60) : Ret cfg 55 [strs ss, .str x] (strs (putS ss x)) := by
  refine Ret.of_body rfl rfl Try.func55 rfl (by simp) (by simp) ?_
  refine Ev.seq (Ev.region ?_)
  apply EvOps.run
  · intro call; simp [Try.f55]; exact rfl
  refine Ev.seq (Ev.seq (Ev.region (EvOps.take 2 ?_)))
  apply EvOps.run
  · intro call; simp; exact rfl
  refine EvOps.call rfl (by simp) (by simp; exact rfl) (by simp) (has_ok ss x (by omega)) (EvOps.nil ?_)
  refine Ev.cond _ (by simp; rfl) (fun hc => ?_) (fun hc => Ev.skip ?_)
  · refine Ev.seq (Ev.region ?_)
    apply EvOps.run
    · intro call; simp; exact rfl
    refine Ev.ret ⟨_, by simp; rfl, ?_⟩
    rw [putS, if_pos hc, strip_strs]
  refine Ev.seq (Ev.region ?_)
  apply EvOps.run
  · intro call; simp; exact rfl
  refine Ev.seq (Ev.region ?_)
  apply EvOps.run
  · intro call; simp; exact rfl
  refine Ev.seq (Ev.block ?_)
  refine Ev.loop (fun m st => ∃ fr h out i, st = ⟨fr, h, false⟩ ∧ fr.length = 41 ∧ slotAt fr 0 = some (strs ss) ∧ slotAt fr 1 = some (.str x) ∧ slotAt fr 5 = some out ∧ Grow 1 h out ((ss.take i).map .str) ∧ slotAt fr 6 = some (.int .i64 (i : Nat)) ∧ i ≤ ss.length ∧ m = ss.length - i ∧ (ss.take i).all (lt · x) = true) ?_ ss.length _ ?_
  · rintro m st ⟨fr, h, out, i, rfl, hl, h0, h1, h5, hg, h6, hi, rfl, hp⟩
    have fin : ∀ fr' : List AV, fr'.length = 41 → slotAt fr' 0 = some (strs ss) → slotAt fr' 1 = some (.str x) → slotAt fr' 5 = some out → slotAt fr' 6 = some (.int .i64 (i : Nat)) → (∀ h : i < ss.length, lt ss[i] x = false) →
        Ev cfg 0 ((Try.f55.body.get rfl) |> fun c => match c with | .seq _ (.seq _ (.seq _ (.seq _ (.seq _ d)))) => d | _ => .skip) ⟨fr', h, false⟩ (Done cfg Try.f55 (strs (putS ss x))) := by
      intro fr' hl' g0 g1 g5 g6 hd
      have hs := split_at (lt · x) ss i hi hp hd
      refine Ev.seq (Ev.region (EvOps.take 3 ?_))
      apply EvOps.run
      · intro call; simp [hl', g0, g1, g5, buildSliceA]; exact rfl
      refine EvOps.append rfl rfl (by simp) (by simp [hl', g5]; exact rfl) Try.underlying24 Try.underlying24 rfl Ty.s9 Ty.b9 Ty.z9 rfl hg (headOk_strs _) (ys := [.str x]) (by simp [elemsA]) (by simp; omega) ?_
      intro out1 h1 hg1 _
      apply EvOps.run
      · intro call; simp [hl']; exact rfl
      refine Ev.seq (Ev.region (EvOps.take 4 ?_))
      apply EvOps.run
      · intro call; simp [hl', g0, g6, sliceA, strs, show ((i : Nat) : Int) ≤ ss.length from by omega]; exact rfl
      have hg1' : Grow 1 h1 out1 ((ss.take i ++ [x]).map .str) := by simpa using hg1
      refine EvOps.append (ys := (ss.drop i).map .str) rfl rfl (by simp) (by simp [hl']; exact rfl) Try.underlying24 Try.underlying24 rfl Ty.s9 Ty.b9 Ty.z9 rfl hg1' (headOk_strs _) ?_ ?_ ?_
      · rw [← List.map_drop]; simp only [elemsA, headOk_strs, if_true]
      · simp; omega
      intro out2 h2 hg2 _
      apply EvOps.run
      · intro call; simp [hl']; exact rfl
      refine Ev.ret ⟨_, by simp [Try.f55, hl']; rfl, ?_⟩
      rw [hg2.strip, ← List.map_append, stripL_strs, putS, if_neg (by simpa using hc), hs.1, hs.2]
      simp [strs]
    by_cases ha : i < ss.length
    · refine Ev.seq (Ev.seq (Ev.region (EvOps.take 10 ?_)))
      apply EvOps.run
      · intro call; simp [hl, h0, h1, h5, h6, ha, strs]; exact rfl
      refine EvOps.call rfl (by simp [hl]) (by simp [hl]; exact rfl) (by simp <;> exact rfl) (less_ok _ x (hx _ (List.getElem_mem ha))) ?_
      apply EvOps.run
      · intro call; simp [hl]; exact rfl
      refine Ev.cond _ (by simp [hl]; rfl) (fun hq => Ev.skip ?_) (fun hq => Ev.exit ?_)
      · refine Ev.block (Ev.seq (Ev.region (EvOps.take 6 ?_)))
        apply EvOps.run
        · intro call; simp [hl, h0, h1, h5, h6, ha, strs, buildSliceA]; exact rfl
        refine EvOps.append rfl rfl (by simp) (by simp [hl]; exact rfl) Try.underlying24 Try.underlying24 rfl Ty.s9 Ty.b9 Ty.z9 rfl hg (headOk_strs _) (ys := [.str ss[i]]) (by simp [elemsA, headOk_cons]) (by simp; omega) ?_
        intro out1 h1' hg1 _
        apply EvOps.run
        · intro call; simp [hl]; exact rfl
        refine Ev.region ?_
        apply EvOps.run
        · intro call; simp [hl, h6, wrap_succ i (by omega)]; exact rfl
        rw [map_take_succ _ _ ha] at hg1
        exact ⟨ss.length - (i + 1), by omega, _, _, _, i + 1, rfl, by simp [hl], by simp [h0], by simp [h1], by simp [hl], hg1, by simp [hl], by omega, rfl, by rw [all_take_succ _ _ _ ha, hp, Bool.true_and]; exact hq⟩
      · exact fin _ (by simp [hl]) (by simp [h0]) (by simp [h1]) (by simp [h5]) (by simp [h6]) (fun _ => hq)
    · refine Ev.seq (Ev.seq (Ev.region ?_))
      apply EvOps.run
      · intro call; simp [hl, h0, h1, h5, h6, ha, strs]; exact rfl
      refine Ev.cond _ (by simp [hl]; rfl) (fun hq => by simp at hq) (fun hq => Ev.exit ?_)
      exact fin _ (by simp [hl]) (by simp [h0]) (by simp [h1]) (by simp [h5]) (by simp [h6]) (fun h => absurd h ha)
  · exact ⟨_, _, _, 0, rfl, by simp, by simp, by simp, by simp, Grow.nils _ _, by simp, by omega, rfl, by simp⟩
end Go.Proofs.Ytnifldbmflkmpaa

/-
  The functions of the set laws, as the evaluator runs them.
-/
namespace Go.Proofs.Ytnifldbmflkmpaa
open Go Ev
set_option linter.unusedVariables false
set_option linter.unusedSimpArgs false
set_option maxRecDepth 10000
theorem clone_ok (ss : List S) (hb : ss.length < 2 ^ 36) : Ret cfg 58 [strs ss] (strs ss) := by
  refine Ret.of_prim (p := cloneA 1) rfl (by simp) ?_ (by simp)
  simp only [strs, cloneA, headOk_strs, List.length_map, true_and, stripL_strs]
  rw [if_pos (by omega)]
theorem either_ok (a b : Bool) : Ret cfg 57 [.bool a, .bool b] (.bool true) := by
  refine Ret.of_body rfl rfl Try.func57 rfl (by simp) (by simp) ?_
  refine Ev.seq (Ev.region ?_)
  apply EvOps.run
  · intro call; simp [Try.f57]; exact rfl
  refine Ev.seq (Ev.region ?_)
  apply EvOps.run
  · intro call; simp; exact rfl
  exact Ev.ret ⟨_, by simp; rfl, by simp⟩
theorem both_ok (a b : Bool) : Ret cfg 59 [.bool a, .bool b] (.bool (a && b)) := by
  refine Ret.of_body rfl rfl Try.func59 rfl (by simp) (by simp) ?_
  refine Ev.seq (Ev.region ?_)
  apply EvOps.run
  · intro call; simp [Try.f59]; exact rfl
  refine Ev.seq (Ev.region ?_)
  cases a <;>
  · apply EvOps.run
    · intro call; simp; exact rfl
    exact Ev.ret ⟨_, by simp; rfl, by simp⟩
theorem first_ok (a b : Bool) : Ret cfg 60 [.bool a, .bool b] (.bool (a && !b)) := by
  refine Ret.of_body rfl rfl Try.func60 rfl (by simp) (by simp) ?_
  refine Ev.seq (Ev.region ?_)
  apply EvOps.run
  · intro call; simp [Try.f60]; exact rfl
  refine Ev.seq (Ev.region ?_)
  cases a <;>
  · apply EvOps.run
    · intro call; simp; exact rfl
    exact Ev.ret ⟨_, by simp; rfl, by simp⟩

theorem take_ext (a b : List S) (hl : a.length = b.length) (h : a.take a.length = b.take a.length) : a = b := by
  rw [List.take_of_length_le (Nat.le_refl _), List.take_of_length_le (by omega)] at h; exact h
theorem words_ok (a b : List S) (hb : a.length < 2 ^ 60) : Ret cfg 18 [strs a, strs b] (.bool (a == b)) := by
  refine Ret.of_body rfl rfl Try.func18 rfl (by simp) (by simp) ?_
  refine Ev.seq (Ev.region ?_)
  apply EvOps.run
  · intro call; simp [Try.f18]; exact rfl
  refine Ev.seq (Ev.seq (Ev.region ?_))
  apply EvOps.run
  · intro call; simp [strs]; exact rfl
  refine Ev.cond _ (by simp; rfl) (fun hc => ?_) (fun hc => Ev.skip ?_)
  · refine Ev.seq (Ev.region ?_)
    apply EvOps.run
    · intro call; simp; exact rfl
    refine Ev.ret ⟨_, by simp; rfl, ?_⟩
    have : (a == b) = false := by
      cases hq : a == b with
      | false => rfl
      | true => simp only [beq_iff_eq] at hq; subst hq; simp at hc
    rw [this, strip_bool]
  have hlen : a.length = b.length := by simp at hc; omega
  refine Ev.seq (Ev.seq (Ev.region ?_))
  apply EvOps.run
  · intro call; simp; exact rfl
  refine Ev.block ?_
  refine Ev.loop (fun m st => ∃ fr i, st = ⟨fr, [], false⟩ ∧ fr.length = 26 ∧ slotAt fr 0 = some (strs a) ∧ slotAt fr 1 = some (strs b) ∧ slotAt fr 5 = some (.int .i64 (i : Nat)) ∧ i ≤ a.length ∧ m = a.length - i ∧ a.take i = b.take i) ?_ a.length _ ?_
  · rintro m st ⟨fr, i, rfl, hl, h0, h1, h5, hi, rfl, hp⟩
    refine Ev.seq (Ev.seq (Ev.region ?_))
    apply EvOps.run
    · intro call; simp [hl, h0, h1, h5, strs]; exact rfl
    refine Ev.cond _ (by simp [hl]; rfl) (fun hc => Ev.skip ?_) (fun hc => Ev.exit ?_)
    · simp at hc
      have hcb : i < b.length := by omega
      refine Ev.seq (Ev.block (Ev.seq (Ev.region ?_)))
      apply EvOps.run
      · intro call; simp [hl, h0, h1, h5, strs, hc, hcb]; exact rfl
      refine Ev.cond (!(a[i] == b[i])) (by simp [hl]) (fun he => ?_) (fun he => Ev.skip ?_)
      · refine Ev.seq (Ev.region ?_)
        apply EvOps.run
        · intro call; simp [hl]; exact rfl
        refine Ev.ret ⟨.bool false, by simp [hl], ?_⟩
        have : (a == b) = false := by
          cases hq : a == b with
          | false => rfl
          | true => simp only [beq_iff_eq] at hq; subst hq; simp at he
        rw [this, strip_bool]
      · refine Ev.region ?_
        apply EvOps.run
        · intro call; simp [hl, h5, wrap_succ i (by omega)]; exact rfl
        refine ⟨a.length - (i + 1), by omega, _, i + 1, rfl, by simp [hl], by simp [h0], by simp [h1], by simp [hl], by omega, rfl, ?_⟩
        have heq : a[i] = b[i] := by simpa using he
        rw [List.take_add_one, List.take_add_one, List.getElem?_eq_getElem hc, List.getElem?_eq_getElem hcb, hp, heq]
    · simp at hc
      refine Ev.seq (Ev.region ?_)
      apply EvOps.run
      · intro call; simp [hl]; exact rfl
      refine Ev.ret ⟨.bool true, by simp [hl], ?_⟩
      have : i = a.length := by omega
      subst this
      rw [take_ext a b hlen hp, strip_bool]
      simp
  · exact ⟨_, 0, rfl, by simp, by simp [strs], by simp [strs], by simp, by omega, rfl, by simp⟩

def withoutS (ss xs : List S) : List S := ss.filter (fun s => !hasS xs s)
theorem filter_take_succ {α : Type} (p : α → Bool) (l : List α) (i : Nat) (h : i < l.length) : (l.take (i + 1)).filter p = (l.take i).filter p ++ (if p l[i] then [l[i]] else []) := by
  rw [List.take_add_one, List.getElem?_eq_getElem h, List.filter_append]; simp [List.filter_cons]
theorem without_ok (ss xs : List S) (hb : ss.length < 2 ^ 40) (hx : xs.length < 2 ^ 60) : Ret cfg 51 [strs ss, strs xs] (strs (withoutS ss xs)) := by
  refine Ret.of_body rfl rfl Try.func51 rfl (by simp) (by simp) ?_
  refine Ev.seq (Ev.region ?_)
  apply EvOps.run
  · intro call; simp [Try.f51]; exact rfl
  refine Ev.seq (Ev.region ?_)
  apply EvOps.run
  · intro call; simp; exact rfl
  refine Ev.seq (Ev.seq (Ev.region ?_))
  apply EvOps.run
  · intro call; simp; exact rfl
  refine Ev.block ?_
  refine Ev.loop (fun m st => ∃ fr h out i, st = ⟨fr, h, false⟩ ∧ fr.length = 28 ∧ slotAt fr 0 = some (strs ss) ∧ slotAt fr 1 = some (strs xs) ∧ slotAt fr 5 = some out ∧ Grow 1 h out (((ss.take i).filter (fun s => !hasS xs s)).map .str) ∧ slotAt fr 6 = some (.int .i64 (i : Nat)) ∧ i ≤ ss.length ∧ m = ss.length - i) ?_ ss.length _ ?_
  · rintro m st ⟨fr, h, out, i, rfl, hl, h0, h1, h5, hg, h6, hi, rfl⟩
    refine Ev.seq (Ev.seq (Ev.region ?_))
    apply EvOps.run
    · intro call; simp [hl, h0, h1, h5, h6, strs]; exact rfl
    refine Ev.cond _ (by simp [hl]; rfl) (fun hc => Ev.skip ?_) (fun hc => Ev.exit ?_)
    · simp at hc
      refine Ev.seq (Ev.block (Ev.seq (Ev.region (EvOps.take 5 ?_))))
      apply EvOps.run
      · intro call; simp [hl, h0, h1, h5, h6, strs, hc]; exact rfl
      refine EvOps.call rfl (by simp [hl]) (by simp [hl]; exact rfl) (by simp <;> exact rfl) (has_ok xs ss[i] hx) ?_
      apply EvOps.run
      · intro call; simp [hl]; exact rfl
      have hlf : ((ss.take i).filter (fun s => !hasS xs s)).length ≤ i := by
        refine Nat.le_trans (List.length_filter_le _ _) ?_
        simp; omega
      have nxt : ∀ (fr' : List AV) (h' : Heap) (out' : AV), fr'.length = 28 → slotAt fr' 0 = some (strs ss) → slotAt fr' 1 = some (strs xs) → slotAt fr' 5 = some out' → slotAt fr' 6 = some (.int .i64 (i : Nat)) → Grow 1 h' out' (((ss.take (i + 1)).filter (fun s => !hasS xs s)).map .str) →
          Ev cfg 0 ((Try.f51.body.get rfl) |> fun c => match c with | .seq _ (.seq _ (.seq (.seq _ (.block _ (.loop (.seq _ (.seq _ d))))) _)) => d | _ => .skip) ⟨fr', h', false⟩
            (onNormal (fun s => ∃ m', m' < ss.length - i ∧ ∃ fr h out i, s = ⟨fr, h, false⟩ ∧ fr.length = 28 ∧ slotAt fr 0 = some (strs ss) ∧ slotAt fr 1 = some (strs xs) ∧ slotAt fr 5 = some out ∧ Grow 1 h out (((ss.take i).filter (fun s => !hasS xs s)).map .str) ∧ slotAt fr 6 = some (.int .i64 (i : Nat)) ∧ i ≤ ss.length ∧ m' = ss.length - i) (fun _ _ => False)) := by
        intro fr' h' out' hl' g0 g1 g5 g6 hg'
        refine Ev.region ?_
        apply EvOps.run
        · intro call; simp [hl', g6, wrap_succ i (by omega)]; exact rfl
        exact ⟨ss.length - (i + 1), by omega, _, _, _, i + 1, rfl, by simp [hl'], by simp [g0], by simp [g1], by simp [g5], hg', by simp [hl'], by omega, rfl⟩
      refine Ev.cond (!(hasS xs ss[i])) (by simp [hl]) (fun he => ?_) (fun he => Ev.skip ?_)
      · refine Ev.region (EvOps.take 6 ?_)
        apply EvOps.run
        · intro call; simp [hl, h0, h1, h5, h6, strs, hc, buildSliceA]; exact rfl
        refine EvOps.append rfl rfl (by simp) (by simp [hl]; exact rfl) Try.underlying24 Try.underlying24 rfl Ty.s9 Ty.b9 Ty.z9 rfl hg (headOk_strs _) (ys := [.str ss[i]]) (by simp [elemsA, headOk_cons]) (by simp only [List.length_map, List.length_singleton]; omega) ?_
        intro out1 h1' hg1 _
        apply EvOps.run
        · intro call; simp [hl]; exact rfl
        refine (nxt _ _ out1 (by simp [hl]) (by simp [h0]) (by simp [h1]) (by simp [hl]) (by simp [h6]) ?_).mono ?_
        · rw [filter_take_succ _ _ _ hc, he]; simpa using hg1
        · intro x s hs; cases x <;> simp only [onNormal] at hs <;> exact hs
      · refine (nxt _ _ out (by simp [hl]) (by simp [h0]) (by simp [h1]) (by simp [h5]) (by simp [h6]) ?_).mono ?_
        · rw [filter_take_succ _ _ _ hc, he]; simpa using hg
        · intro x s hs; cases x <;> simp only [onNormal] at hs <;> exact hs
    · simp at hc
      refine Ev.seq (Ev.region ?_)
      apply EvOps.run
      · intro call; simp [hl, h5]; exact rfl
      refine Ev.ret ⟨_, by simp [Try.f51, hl]; rfl, ?_⟩
      rw [hg.strip, stripL_strs, List.take_of_length_le (by omega)]
      rfl
  · exact ⟨_, _, _, 0, rfl, by simp, by simp, by simp, by simp, Grow.nils _ _, by simp, by omega, rfl⟩
end Go.Proofs.Ytnifldbmflkmpaa

/-
  resp.right and resp.Right.
-/
namespace Go.Proofs.Ytnifldbmflkmpaa
open Go Ev
set_option linter.unusedVariables false
set_option linter.unusedSimpArgs false
set_option maxRecDepth 10000
/-- resp.right, as it counts. -/
def rightP (d : Nat) (k : Int) (s : S) (n : Int) (l : List R) : Bool :=
  if k = 0 ∨ k = 1 then (n == 0 && (l.length : Int) == 0) && lineS s
  else if k = 2 then s == [] && (l.length : Int) == 0
  else if k = 3 then n == 0 && (l.length : Int) == 0
  else if k = 4 then s == [] && n == 0 && (l.length : Int) == 0
  else if k = 5 then d != 0 && (s == [] && n == 0) && rightRs (d - 1) l
  else false
theorem len0 (l : List R) : ((l.length : Int) == 0) = l.isEmpty := by cases l <;> simp
theorem lenp (l : List R) : decide (0 < l.length) = !l.isEmpty := by cases l <;> simp
theorem rightP_eq (d : Nat) (k : Int) (s : S) (n : Int) (l : List R) : rightP d k s n l = rightR d (.mk k s n l) := by
  have hs : (s != []) = !(s == []) := rfl
  by_cases h0 : k < 0
  · simp [rightP, rightR, badHead, h0, show k ≠ 0 by omega, show k ≠ 1 by omega, show k ≠ 2 by omega, show k ≠ 3 by omega, show k ≠ 4 by omega, show k ≠ 5 by omega]
  by_cases h5 : 5 < k
  · simp [rightP, rightR, badHead, h0, h5, show k ≠ 0 by omega, show k ≠ 1 by omega, show k ≠ 2 by omega, show k ≠ 3 by omega, show k ≠ 4 by omega, show k ≠ 5 by omega]
  have hl : l = [] → rightRs (d - 1) l = true := by rintro rfl; simp only [rightRs]
  have hle : l.isEmpty = true → rightRs (d - 1) l = true := fun h => hl (List.isEmpty_iff.1 h)
  have hk : k = 0 ∨ k = 1 ∨ k = 2 ∨ k = 3 ∨ k = 4 ∨ k = 5 := by omega
  simp only [rightP, rightR, badHead, len0, lenp, hs, bne]
  rcases hk with rfl | rfl | rfl | rfl | rfl | rfl
  all_goals
    revert hle
    generalize rightRs (d - 1) l = rr
    generalize lineS s = ls
    generalize (s == []) = es
    generalize (n == 0) = en
    generalize l.isEmpty = el
    generalize (d == 0) = ed
    cases rr <;> cases ls <;> cases es <;> cases en <;> cases el <;> cases ed <;> simp
set_option maxHeartbeats 8000000 in
theorem right_ok : ∀ (d : Nat) (r : R), d < 2 ^ 60 → smR r → Ret cfg 80 [aR r, .int .i64 (d : Nat)] (.bool (rightR d r))
  | d, .mk k s n l, hd, hsm => by
    simp only [smR] at hsm
    obtain ⟨hs2, hl2, _, hsm⟩ := hsm
    have ih : d ≠ 0 → ∀ (i : Nat) (h : i < l.length), Ret cfg 80 [aR l[i], .int .i64 ((d : Int) - 1)] (.bool (rightR (d - 1) l[i])) := fun hd0 i h => by
      have := elem_size h
      have := right_ok (d - 1) l[i] (by omega) (smRs_get i h hsm)
      rwa [show ((d - 1 : Nat) : Int) = (d : Int) - 1 by omega] at this
    rw [← rightP_eq]
    refine Ret.of_body rfl rfl Try.func80 rfl (by simp) (by simp) ?_
    refine Ev.seq (Ev.region ?_)
    apply EvOps.keep (h' := [.cells [.int .i64 k, .str s, .int .i64 n, rs l], .cells [.int .i64 (d : Nat)]]) (d' := false) (fun fr => fr.length = 51 ∧ slotAt fr 2 = some (.ptr 0 0) ∧ slotAt fr 3 = some (.ptr 1 0))
    · intro call; simp [Try.f80, aR, rs]; exact rfl
    · exact ⟨by simp, by simp, by simp⟩
    rintro fr ⟨hl, h2, h3⟩
    refine Ev.seq (Ev.seq (Ev.region ?_))
    apply EvOps.keep (h' := [.cells [.int .i64 k, .str s, .int .i64 n, rs l], .cells [.int .i64 (d : Nat)]]) (d' := false) (fun fr => fr.length = 51 ∧ slotAt fr 2 = some (.ptr 0 0) ∧ slotAt fr 3 = some (.ptr 1 0) ∧ slotAt fr 6 = some (.int .i64 k))
    · intro call; simp [hl, h2]; exact rfl
    · exact ⟨by simp [hl], by simp [h2], by simp [h3], by simp [hl]⟩
    clear hl h2 h3 fr
    rintro fr ⟨hl, h2, h3, h6⟩
    refine Ev.block ?_
    refine Ev.seq (Ev.mid (fun st => ∃ fr : List AV, st = ⟨fr, [.cells [.int .i64 k, .str s, .int .i64 n, rs l], .cells [.int .i64 (d : Nat)]], false⟩ ∧ fr.length = 51 ∧ slotAt fr 2 = some (.ptr 0 0) ∧ slotAt fr 3 = some (.ptr 1 0) ∧ slotAt fr 6 = some (.int .i64 k) ∧ slotAt fr 7 = some (.bool (k == 0))) ?_ ?_)
    · refine Ev.region ?_
      apply EvOps.run
      · intro call; simp [hl, h6]; exact rfl
      exact ⟨_, rfl, by simp [hl], by simp [h2], by simp [h3], by simp [h6], by simp [hl]⟩
    clear hl h2 h3 h6 fr
    rintro _ ⟨fr, rfl, hl, h2, h3, h6, h7⟩
    refine Ev.mono (Q := fun x st => x = .normal ∧ ∃ fr : List AV, st = ⟨fr, [.cells [.int .i64 k, .str s, .int .i64 n, rs l], .cells [.int .i64 (d : Nat)]], false⟩ ∧ fr.length = 51 ∧ slotAt fr 2 = some (.ptr 0 0) ∧ slotAt fr 3 = some (.ptr 1 0) ∧ slotAt fr 6 = some (.int .i64 k) ∧ slotAt fr 7 = some (.bool (k == 0 || k == 1))) ?_ ?_
    · refine Ev.cond (k == 0) (by simp only [op_tmp, h7]) (fun h => Ev.skip ⟨rfl, fr, rfl, hl, h2, h3, h6, by rw [h7, h]; rfl⟩) (fun h => Ev.region ?_)
      apply EvOps.run
      · intro call; simp [hl, h6]; exact rfl
      exact ⟨rfl, _, rfl, by simp [hl], by simp [h2], by simp [h3], by simp [h6], by simp [hl, h]⟩
    clear hl h2 h3 h6 h7 fr
    rintro _ _ ⟨rfl, fr, rfl, hl, h2, h3, h6, h7⟩
    refine Ev.cond (k == 0 || k == 1) (by simp only [op_tmp, h7]) (fun h01 => ?_) (fun h01 => ?_)
    · have hres : rightP d k s n l = ((n == 0 && (l.length : Int) == 0) && lineS s) := by
        simp only [Bool.or_eq_true, beq_iff_eq] at h01
        rw [rightP, if_pos h01]
      rw [lineS_idx] at hres
      have hb := bare_ok k s n l true false false
      simp only [Bool.true_or, Bool.true_and, Bool.false_or] at hb
      have i13 := idx67 s 13
      have i10 := idx67 s 10
      simp only [show (13 : Int).toNat.toUInt8 = 13 from rfl] at i13
      simp only [show (10 : Int).toNat.toUInt8 = 10 from rfl] at i10
      generalize (n == 0 && (l.length : Int) == 0) = B at hb hres
      generalize Lib.indexByte s 13 = J at i13 hres
      generalize Lib.indexByte s 10 = J' at i10 hres
      refine Ev.seq (Ev.region (EvOps.take 1 ?_))
      apply EvOps.run
      · intro call; simp [hl, h2, rs]; exact rfl
      refine EvOps.call rfl (by simp) (by simp [hl] <;> exact rfl) (by simp [aR] <;> exact rfl) hb ?_
      cases B with
      | false =>
        apply EvOps.run
        · intro call; simp [hl]; exact rfl
        exact Ev.ret ⟨.bool false, by simp [Try.f80, hl], by rw [hres]; rfl⟩
      | true =>
        refine EvOps.take 3 ?_
        apply EvOps.run
        · intro call; simp [hl, h2, rs]; exact rfl
        refine EvOps.call rfl (by simp [hl]) (by simp [hl] <;> exact rfl) (by simp <;> exact rfl) i13 ?_
        by_cases hj : J < 0
        · refine EvOps.take 5 ?_
          apply EvOps.run
          · intro call; simp [hl, h2, rs, hj]; exact rfl
          refine EvOps.call rfl (by simp [hl]) (by simp [hl] <;> exact rfl) (by simp <;> exact rfl) i10 ?_
          apply EvOps.run
          · intro call; simp [hl]; exact rfl
          exact Ev.ret ⟨.bool (decide (J' < 0)), by simp [Try.f80, hl], by rw [hres]; simp [hj]⟩
        · apply EvOps.run
          · intro call; simp [hl, hj]; exact rfl
          exact Ev.ret ⟨.bool false, by simp [Try.f80, hl], by rw [hres]; simp [hj]⟩
    refine Ev.seq (Ev.region ?_)
    apply EvOps.run
    · intro call; simp [hl, h6]; exact rfl
    refine Ev.cond (k == 2) (by simp [hl]) (fun h => ?_) (fun c2 => ?_)
    · simp only [beq_iff_eq] at h
      subst h
      have hb := bare_ok 2 s n l false true false
      refine Ev.seq (Ev.region (EvOps.take 1 ?_))
      apply EvOps.run
      · intro call; simp [hl, h2, rs]; exact rfl
      refine EvOps.call rfl (by simp) (by simp [hl] <;> exact rfl) (by simp [aR] <;> exact rfl) hb ?_
      apply EvOps.run
      · intro call; simp [hl]; exact rfl
      exact Ev.ret ⟨_, by simp [Try.f80, hl]; rfl, by simp [rightP]⟩
    refine Ev.seq (Ev.region ?_)
    apply EvOps.run
    · intro call; simp [hl, h6]; exact rfl
    refine Ev.cond (k == 3) (by simp [hl]) (fun h => ?_) (fun c3 => ?_)
    · simp only [beq_iff_eq] at h
      subst h
      have hb := bare_ok 3 s n l true false false
      refine Ev.seq (Ev.region (EvOps.take 1 ?_))
      apply EvOps.run
      · intro call; simp [hl, h2, rs]; exact rfl
      refine EvOps.call rfl (by simp) (by simp [hl] <;> exact rfl) (by simp [aR] <;> exact rfl) hb ?_
      apply EvOps.run
      · intro call; simp [hl]; exact rfl
      exact Ev.ret ⟨_, by simp [Try.f80, hl]; rfl, by simp [rightP]⟩
    refine Ev.seq (Ev.region ?_)
    apply EvOps.run
    · intro call; simp [hl, h6]; exact rfl
    refine Ev.cond (k == 4) (by simp [hl]) (fun h => ?_) (fun c4 => ?_)
    · simp only [beq_iff_eq] at h
      subst h
      have hb := bare_ok 4 s n l false false false
      refine Ev.seq (Ev.region (EvOps.take 1 ?_))
      apply EvOps.run
      · intro call; simp [hl, h2, rs]; exact rfl
      refine EvOps.call rfl (by simp) (by simp [hl] <;> exact rfl) (by simp [aR] <;> exact rfl) hb ?_
      apply EvOps.run
      · intro call; simp [hl]; exact rfl
      exact Ev.ret ⟨_, by simp [Try.f80, hl]; rfl, by simp [rightP]⟩
    refine Ev.seq (Ev.region ?_)
    apply EvOps.run
    · intro call; simp [hl, h6]; exact rfl
    refine Ev.cond (k == 5) (by simp [hl]) (fun h => ?_) (fun c5 => Ev.skip ?_)
    · simp only [beq_iff_eq] at h
      subst h
      have hres : rightP d 5 s n l = ((d != 0 && (s == [] && n == 0)) && rightRs (d - 1) l) := by simp [rightP]
      have hb := bare_ok 5 s n l false false true
      simp only [Bool.true_or, Bool.false_or, Bool.and_true] at hb
      generalize (s == [] && n == 0) = B at hb hres
      cases d with
      | zero =>
        refine Ev.seq (Ev.region ?_)
        apply EvOps.run
        · intro call; simp [hl, h3]; exact rfl
        exact Ev.ret ⟨.bool false, by simp [Try.f80, hl], by rw [hres]; simp⟩
      | succ d =>
        refine Ev.seq (Ev.region (EvOps.take 4 ?_))
        apply EvOps.run
        · intro call; simp [hl, h2, h3, rs]; exact rfl
        refine EvOps.call rfl (by simp [hl]) (by simp [hl] <;> exact rfl) (by simp [aR] <;> exact rfl) hb ?_
        cases B with
        | false =>
          apply EvOps.run
          · intro call; simp [hl]; exact rfl
          exact Ev.ret ⟨.bool false, by simp [Try.f80, hl], by rw [hres]; simp⟩
        | true =>
          refine EvOps.take 5 ?_
          apply EvOps.run
          · intro call; simp [hl, h2, h3]; exact rfl
          refine EvOps.calli (first := []) (captured := []) (vs := [rs l, .func (.func 100) [] [.ptr 1 0]]) rfl (by simp) (by simp [hl]) (by simp [hl, rs]) (contf_ok (d + 1) 1 _ (by simp) hd l (by omega) (ih (by omega))) ?_
          rintro _ _ _ ⟨rfl, rfl, rfl⟩
          apply EvOps.run
          · intro call; simp [hl]; exact rfl
          exact Ev.ret ⟨.bool (rightRs d l), by simp [Try.f80, hl], by rw [hres]; simp⟩
    · refine Ev.seq (Ev.region ?_)
      apply EvOps.run
      · intro call; simp [hl]; exact rfl
      refine Ev.ret ⟨.bool false, by simp [Try.f80, hl], ?_⟩
      simp only [Bool.or_eq_false_iff, beq_eq_false_iff_ne, ne_eq] at h01 c2 c3 c4 c5
      simp [rightP, h01.1, h01.2, c2, c3, c4, c5]
termination_by d r => SizeOf.sizeOf r
theorem right4_ok (r : R) (hsm : smR r) : Ret cfg 62 [aR r] (.bool (rightR 4 r)) := by
  have hr := right_ok 4 r (by omega) hsm
  obtain ⟨k, s, n, l⟩ := r
  refine Ret.of_body rfl rfl Try.func62 rfl (by simp) (by simp) ?_
  refine Ev.seq (Ev.region ?_)
  apply EvOps.run
  · intro call; simp [Try.f62, aR]; exact rfl
  refine Ev.seq (Ev.region (EvOps.take 1 ?_))
  apply EvOps.run
  · intro call; simp; exact rfl
  refine EvOps.call rfl (by simp) (by simp <;> exact rfl) (by simp [aR] <;> exact rfl) hr ?_
  apply EvOps.run
  · intro call; simp; exact rfl
  exact Ev.ret ⟨_, by simp [Try.f62]; rfl, by simp⟩
end Go.Proofs.Ytnifldbmflkmpaa

/-
  resp.write, resp.Write: what is written is the encoding.
-/
namespace Go.Proofs.Ytnifldbmflkmpaa
open Go Ev
set_option linter.unusedVariables false
set_option linter.unusedSimpArgs false
set_option maxRecDepth 10000
theorem headOk_bytes (s : S) : headOk 1 (ofBytes s) = true := by cases s <;> rfl
theorem ofBytes_append (a b : S) : ofBytes (a ++ b) = ofBytes a ++ ofBytes b := by simp [ofBytes]
theorem ofBytes_ne {a : S} (h : a ≠ []) : ofBytes a ≠ [] := by cases a <;> simp_all [ofBytes]
theorem cleanL_bytes (n : Nat) (s : S) : cleanL n (ofBytes s) = true := by
  unfold ofBytes
  exact cleanL_map n (fun b : UInt8 => AV.int .u8 (b.toNat : Int)) (fun _ => clean_int _ _ _) s
theorem stripL_bytes (s : S) : stripL (ofBytes s) = ofBytes s := by
  unfold ofBytes
  exact stripL_map (fun b : UInt8 => AV.int .u8 (b.toNat : Int)) (fun _ => strip_int _ _) s
theorem encRs_take (l : List R) (i : Nat) (h : i < l.length) : encRs (l.take (i + 1)) = encRs (l.take i) ++ encR l[i] := by
  have key : ∀ a b : List R, encRs (a ++ b) = encRs a ++ encRs b := by
    intro a b
    induction a with
    | nil => simp [encRs]
    | cons r a ih => simp [encRs, ih]
  rw [List.take_add_one, List.getElem?_eq_getElem h, key]
  simp [encRs]
theorem encRs_len_take (l : List R) (i : Nat) (h : i < l.length) : (encRs (l.take i)).length + (encR l[i]).length ≤ (encRs l).length := by
  have e := encRs_take l i h
  have key : ∀ (a : List R) (i : Nat), (encRs (a.take i)).length ≤ (encRs a).length := by
    intro a
    induction a with
    | nil => intro i; simp
    | cons r a ih => intro i; cases i with
      | zero => simp [encRs]
      | succ i => have := ih i; simp only [List.take_succ_cons, encRs, List.length_append]; omega
  have := key l (i + 1)
  rw [e, List.length_append] at this
  exact this
/-- What writing a reply behind octets leaves. -/
def Wrote (x : AV) (xs : S) (h : Heap) (e : S) (v : AV) (h' : Heap) (d' : Bool) : Prop :=
  Grow 1 h' v (ofBytes (xs ++ e)) ∧ Stays x h v h' ∧ (d' = true ∨ ∃ i, tokOf v = some i ∧ h.length ≤ i)
theorem dec_len (n : Int) (h0 : -(2 ^ 63) ≤ n) (h1 : n < 2 ^ 63) : (decS n).length ≤ 20 := by
  have := digs_length 19 n.natAbs (by omega) (by omega)
  unfold decS; split <;> (try simp only [List.length_cons]) <;> omega
set_option maxHeartbeats 8000000 in
theorem write_ok : ∀ (r : R), smR r → ∀ (h : Heap) (x : AV) (xs : S), Grow 1 h x (ofBytes xs) → xs.length + (encR r).length ≤ 2 ^ 40 →
    RetI cfg 63 [x, aR r] h (Wrote x xs h (encR r))
  | .mk k s n l, hsm, h, x, xs, hg, hlen => by
    simp only [smR] at hsm
    obtain ⟨hs2, hl2, ⟨hn0, hn1⟩, hsm⟩ := hsm
    have ih : ∀ (i : Nat) (hi : i < l.length) (h : Heap) (x : AV) (xs : S), Grow 1 h x (ofBytes xs) → xs.length + (encR l[i]).length ≤ 2 ^ 40 → RetI cfg 63 [x, aR l[i]] h (Wrote x xs h (encR l[i])) := fun i hi h x xs =>
      have := elem_size hi
      write_ok l[i] (smRs_get i hi hsm) h x xs
    have htok : tokOf x ≠ some h.length := fun e => by have := hg.tok_lt e; omega
    -- one append, and the end
    have fin : ∀ (e : S) (v : AV) (h' : Heap) (d' : Bool), Grow 1 h' v (ofBytes xs ++ ofBytes e) → Stays x (h ++ [.cells [.int .i64 k, .str s, .int .i64 n, rs l]]) v h' → e ≠ [] → (ofBytes e ≠ [] → d' = true ∨ ∃ i, tokOf v = some i ∧ h.length ≤ i) → Wrote x xs h e v h' d' := by
      intro e v h' d' g st he hd
      refine ⟨by rw [ofBytes_append]; exact g, (Stays.push x h _).trans st, hd (ofBytes_ne he)⟩
    refine RetI.of_body rfl rfl Try.func63 rfl ?_
    refine Ev.seq (Ev.region ?_)
    apply EvOps.keep (h' := h ++ [.cells [.int .i64 k, .str s, .int .i64 n, rs l]]) (d' := false) (fun fr => fr.length = 72 ∧ slotAt fr 0 = some x ∧ slotAt fr 3 = some (.ptr h.length 0))
    · intro call; simp [Try.f63, aR, rs]; exact rfl
    · exact ⟨by simp, by simp, by simp⟩
    rintro fr ⟨hl, h0, h3⟩
    refine Ev.seq (Ev.seq (Ev.region ?_))
    apply EvOps.keep (h' := h ++ [.cells [.int .i64 k, .str s, .int .i64 n, rs l]]) (d' := false) (fun fr => fr.length = 72 ∧ slotAt fr 0 = some x ∧ slotAt fr 3 = some (.ptr h.length 0) ∧ slotAt fr 8 = some (.int .i64 k))
    · intro call; simp [hl, h3]; exact rfl
    · exact ⟨by simp [hl], by simp [h0], by simp [h3], by simp [hl]⟩
    clear hl h0 h3 fr
    rintro fr ⟨hl, h0, h3, h8⟩
    have hg' := hg.push (.cells [.int .i64 k, .str s, .int .i64 n, rs l])
    refine Ev.block (Ev.seq (Ev.region ?_))
    apply EvOps.run
    · intro call; simp [hl, h8]; exact rfl
    refine Ev.cond (k == 0) (by simp [hl]) (fun c => ?_) (fun c0 => ?_)
    · simp only [beq_iff_eq] at c
      have he : encR (.mk k s n l) = 43 :: (s ++ crlf) := by simp only [encR, c, if_true]
      rw [he] at hlen ⊢
      simp only [List.length_cons, List.length_append, crlf, List.length_nil] at hlen
      refine Ev.seq (Ev.region (EvOps.take 5 ?_))
      apply EvOps.run
      · intro call; simp [hl, h0, h3, show 1 + s.length ≤ 140737488355328 by omega, show s.length + 1 ≤ 140737488355328 by omega, show s.length + 1 + 2 ≤ 140737488355328 by omega, show 1 + s.length + 2 ≤ 140737488355328 by omega, show s.length + 2 + 1 ≤ 140737488355328 by omega]; exact rfl
      refine EvOps.appendB (x := x) (y := .str (43 :: (s ++ crlf))) rfl rfl (by simp) (by simp [hl]; exact rfl) Try.underlying43 Try.underlying9 rfl Ty.s5 Ty.b5 Ty.z5 rfl hg' (headOk_bytes _) (ys := ofBytes (43 :: (s ++ crlf))) (by simp [elemsA]) (by simp only [ofBytes_length, List.length_cons, List.length_append, crlf, List.length_nil]; omega) (by simp) ?_
      intro x1 h1 d1 g1 s1 t1
      apply EvOps.run
      · intro call; simp [hl]; exact rfl
      exact Ev.ret ⟨x1, by simp [Try.f63, hl], loud_if (fin _ _ _ _ g1 s1 (by simp) t1).2.2 (fin _ _ _ _ g1 s1 (by simp) t1)⟩
    refine Ev.seq (Ev.region ?_)
    apply EvOps.run
    · intro call; simp [hl, h8]; exact rfl
    refine Ev.cond (k == 1) (by simp [hl]) (fun c => ?_) (fun c1 => ?_)
    · simp only [beq_iff_eq] at c
      have he : encR (.mk k s n l) = 45 :: (s ++ crlf) := by simp only [encR, c, if_true, if_false, show ¬ ((1 : Int) = 0) by omega]
      rw [he] at hlen ⊢
      simp only [List.length_cons, List.length_append, crlf, List.length_nil] at hlen
      refine Ev.seq (Ev.region (EvOps.take 5 ?_))
      apply EvOps.run
      · intro call; simp [hl, h0, h3, show 1 + s.length ≤ 140737488355328 by omega, show s.length + 1 ≤ 140737488355328 by omega, show s.length + 1 + 2 ≤ 140737488355328 by omega, show 1 + s.length + 2 ≤ 140737488355328 by omega, show s.length + 2 + 1 ≤ 140737488355328 by omega]; exact rfl
      refine EvOps.appendB (x := x) (y := .str (45 :: (s ++ crlf))) rfl rfl (by simp) (by simp [hl]; exact rfl) Try.underlying43 Try.underlying9 rfl Ty.s5 Ty.b5 Ty.z5 rfl hg' (headOk_bytes _) (ys := ofBytes (45 :: (s ++ crlf))) (by simp [elemsA]) (by simp only [ofBytes_length, List.length_cons, List.length_append, crlf, List.length_nil]; omega) (by simp) ?_
      intro x1 h1 d1 g1 s1 t1
      apply EvOps.run
      · intro call; simp [hl]; exact rfl
      exact Ev.ret ⟨x1, by simp [Try.f63, hl], loud_if (fin _ _ _ _ g1 s1 (by simp) t1).2.2 (fin _ _ _ _ g1 s1 (by simp) t1)⟩
    refine Ev.seq (Ev.region ?_)
    apply EvOps.run
    · intro call; simp [hl, h8]; exact rfl
    refine Ev.cond (k == 2) (by simp [hl]) (fun c => ?_) (fun c2 => ?_)
    · simp only [beq_iff_eq] at c
      have he : encR (.mk k s n l) = 58 :: (decS n ++ crlf) := by simp only [encR, c, if_true, if_false, show ¬ ((2 : Int) = 0) by omega, show ¬ ((2 : Int) = 1) by omega]
      have hdl := dec_len n hn0 hn1
      rw [he] at hlen ⊢
      simp only [List.length_cons, List.length_append, crlf, List.length_nil] at hlen
      refine Ev.seq (Ev.region (EvOps.take 3 ?_))
      apply EvOps.run
      · intro call; simp [hl, h0, h3]; exact rfl
      refine EvOps.call rfl (by simp) (by simp [hl] <;> exact rfl) (by simp <;> exact rfl) (print_ok n hn0 hn1) ?_
      have hp := print_ok n hn0 hn1
      generalize decS n = q at hdl hlen ⊢
      refine EvOps.take 2 ?_
      apply EvOps.run
      · intro call; simp [hl, show 1 + q.length ≤ 140737488355328 by omega, show q.length + 1 ≤ 140737488355328 by omega, show q.length + 1 + 2 ≤ 140737488355328 by omega]; exact rfl
      refine EvOps.appendB (x := x) (y := .str (58 :: (q ++ crlf))) rfl rfl (by simp) (by simp [hl, h0]; exact rfl) Try.underlying43 Try.underlying9 rfl Ty.s5 Ty.b5 Ty.z5 rfl hg' (headOk_bytes _) (ys := ofBytes (58 :: (q ++ crlf))) (by simp [elemsA]) (by simp only [ofBytes_length, List.length_cons, List.length_append, crlf, List.length_nil]; omega) (by simp) ?_
      intro x1 h1 d1 g1 s1 t1
      apply EvOps.run
      · intro call; simp [hl]; exact rfl
      exact Ev.ret ⟨x1, by simp [Try.f63, hl], loud_if (fin _ _ _ _ g1 s1 (by simp) t1).2.2 (fin _ _ _ _ g1 s1 (by simp) t1)⟩
    refine Ev.seq (Ev.region ?_)
    apply EvOps.run
    · intro call; simp [hl, h8]; exact rfl
    refine Ev.cond (k == 3) (by simp [hl]) (fun c => ?_) (fun c3 => ?_)
    · simp only [beq_iff_eq] at c
      have he : encR (.mk k s n l) = 36 :: (decS (s.length : Int) ++ crlf ++ s ++ crlf) := by simp only [encR, c, if_true, if_false, show ¬ ((3 : Int) = 0) by omega, show ¬ ((3 : Int) = 1) by omega, show ¬ ((3 : Int) = 2) by omega]
      have hdl := dec_len (s.length : Int) (by omega) (by omega)
      rw [he] at hlen ⊢
      simp only [List.length_cons, List.length_append, crlf, List.length_nil] at hlen
      refine Ev.seq (Ev.region (EvOps.take 4 ?_))
      apply EvOps.run
      · intro call; simp [hl, h0, h3]; exact rfl
      refine EvOps.call rfl (by simp) (by simp [hl] <;> exact rfl) (by simp <;> exact rfl) (print_ok (s.length : Int) (by omega) (by omega)) ?_
      generalize decS (s.length : Int) = q at hdl hlen ⊢
      refine EvOps.take 6 ?_
      apply EvOps.run
      · intro call; simp [hl, h3, show 1 + q.length ≤ 140737488355328 by omega, show q.length + 1 ≤ 140737488355328 by omega, show q.length + 1 + 2 ≤ 140737488355328 by omega, show q.length + 2 + 1 + s.length ≤ 140737488355328 by omega, show q.length + (s.length + 2) + 1 ≤ 140737488355328 by omega, show q.length + 2 + 1 + s.length + 2 ≤ 140737488355328 by omega, show q.length + (s.length + 1 + 1) ≤ 140737488355325 by omega]; exact rfl
      refine EvOps.appendB (x := x) (y := .str (36 :: (q ++ crlf ++ s ++ crlf))) rfl rfl (by simp) (by simp [hl, h0, crlf]) Try.underlying43 Try.underlying9 rfl Ty.s5 Ty.b5 Ty.z5 rfl hg' (headOk_bytes _) (ys := ofBytes (36 :: (q ++ crlf ++ s ++ crlf))) (by simp [elemsA]) (by simp only [ofBytes_length, List.length_cons, List.length_append, crlf, List.length_nil]; omega) (by simp) ?_
      intro x1 h1 d1 g1 s1 t1
      apply EvOps.run
      · intro call; simp [hl]; exact rfl
      exact Ev.ret ⟨x1, by simp [Try.f63, hl], loud_if (fin _ _ _ _ g1 s1 (by simp) t1).2.2 (fin _ _ _ _ g1 s1 (by simp) t1)⟩
    refine Ev.seq (Ev.region ?_)
    apply EvOps.run
    · intro call; simp [hl, h8]; exact rfl
    refine Ev.cond (k == 5) (by simp [hl]) (fun c => ?_) (fun c5 => Ev.skip ?_)
    · simp only [beq_iff_eq] at c
      have he : encR (.mk k s n l) = 42 :: (decS (l.length : Int) ++ crlf ++ encRs l) := by simp only [encR, c, if_true, if_false, show ¬ ((5 : Int) = 0) by omega, show ¬ ((5 : Int) = 1) by omega, show ¬ ((5 : Int) = 2) by omega, show ¬ ((5 : Int) = 3) by omega]
      have hdl := dec_len (l.length : Int) (by omega) (by omega)
      rw [he] at hlen ⊢
      simp only [List.length_cons, List.length_append, crlf, List.length_nil] at hlen
      refine Ev.seq (Ev.region (EvOps.take 4 ?_))
      apply EvOps.run
      · intro call; simp [hl, h0, h3, rs]; exact rfl
      refine EvOps.call rfl (by simp) (by simp [hl] <;> exact rfl) (by simp <;> exact rfl) (print_ok (l.length : Int) (by omega) (by omega)) ?_
      generalize decS (l.length : Int) = q at hdl hlen ⊢
      refine EvOps.take 2 ?_
      apply EvOps.run
      · intro call; simp [hl, show 1 + q.length ≤ 140737488355328 by omega, show q.length + 1 ≤ 140737488355328 by omega, show q.length + 1 + 2 ≤ 140737488355328 by omega]; exact rfl
      refine EvOps.appendB (x := x) (y := .str (42 :: (q ++ crlf))) rfl rfl (by simp) (by simp [hl, h0]; exact rfl) Try.underlying43 Try.underlying9 rfl Ty.s5 Ty.b5 Ty.z5 rfl hg' (headOk_bytes _) (ys := ofBytes (42 :: (q ++ crlf))) (by simp [elemsA]) (by simp only [ofBytes_length, List.length_cons, List.length_append, crlf, List.length_nil]; omega) (by simp) ?_
      intro x1 h1 d1 g1 s1 t1
      have hw := fin _ _ _ _ g1 s1 (by simp) t1
      have h3' : h1[h.length]? = some (.cells [.int .i64 k, .str s, .int .i64 n, rs l]) := by
        rw [s1.old h.length (by simp) htok]; simp [rs]
      have hlh : h.length < h1.length := (List.getElem?_eq_some_iff.1 h3').1
      apply EvOps.keep (h' := h1) (d' := d1) (fun fr => fr.length = 72 ∧ slotAt fr 0 = some x1 ∧ slotAt fr 3 = some (.ptr h.length 0))
      · intro call; simp [hl]; exact rfl
      · exact ⟨by simp [hl], by simp [hl], by simp [h3]⟩
      clear t1 s1 g1 hl h0 h3 h8 c0 c1 c2 c3 hg' fr
      rintro fr ⟨hl, h0, h3⟩
      refine Ev.seq (Ev.seq (Ev.region ?_))
      apply EvOps.run
      · intro call; simp [hl, h3, h3', rs]; exact rfl
      refine Ev.block ?_
      refine Ev.loop (fun m st => ∃ fr hh x' d' i, st = ⟨fr, hh, d'⟩ ∧ fr.length = 72 ∧ slotAt fr 0 = some x' ∧ slotAt fr 59 = some (rs l) ∧ slotAt fr 60 = some (.int .i64 (l.length : Nat)) ∧ slotAt fr 61 = some (.int .i64 (i : Nat)) ∧ i ≤ l.length ∧ m = l.length - i ∧ Wrote x xs h (42 :: (q ++ crlf ++ encRs (l.take i))) x' hh d') ?_ l.length _ ?_
      · clear hl h0 h3 fr h3' hlh hw x1 h1 d1
        rintro m st ⟨fr, hh, x', d', i, rfl, hl, h0, h59, h60, h61, hi, rfl, hw⟩
        refine Ev.seq (Ev.region ?_)
        apply EvOps.run
        · intro call; simp [hl, h60, h61]; exact rfl
        refine Ev.seq (Ev.cond (decide (i < l.length)) (by simp [hl]) (fun hc => Ev.skip ?_) (fun hc => Ev.exit ?_))
        · simp only [decide_eq_true_eq] at hc
          have hq := encRs_len_take l i hc
          have ih := fun h x xs => ih i hc h x xs
          have hstep := encRs_take l i hc
          obtain ⟨k1, s1, n1, l1, e1⟩ : ∃ k1 s1 n1 l1, l[i] = R.mk k1 s1 n1 l1 := by cases l[i] with | mk a b c e => exact ⟨a, b, c, e, rfl⟩
          rw [e1] at ih hstep hq
          have ih := ih (hh ++ [.cells [.int .i64 k1, .str s1, .int .i64 n1, rs l1]]) x' (xs ++ 42 :: (q ++ crlf ++ encRs (l.take i))) (hw.1.push _) (by simp only [List.length_append, List.length_cons, crlf, List.length_nil]; omega)
          refine Ev.seq (Ev.block (Ev.seq (Ev.region ?_)))
          apply EvOps.run
          · intro call; simp [hl, h59, h61, rs, hc, e1, aR, splice]; exact rfl
          refine Ev.region (EvOps.take 2 ?_)
          apply EvOps.run
          · intro call; simp [hl, h0]; exact rfl
          refine EvOps.calli (first := []) (captured := []) (vs := [x', aR (.mk k1 s1 n1 l1)]) rfl (by simp) (by simp [hl]) (by simp [hl, aR]) ih ?_
          rintro v h2 d2 ⟨g2, st2, t2⟩
          apply EvOps.run
          · intro call; simp [hl]; exact rfl
          refine Ev.region ?_
          apply EvOps.run
          · intro call; simp [hl, h61, wrap_succ i (by omega)]; exact rfl
          refine ⟨l.length - (i + 1), by omega, _, h2, v, _, i + 1, rfl, by simp [hl], by simp [hl], by simp [h59], by simp [h60], by simp [hl], by omega, rfl, ?_, (hw.2.1.trans (Stays.push x' hh _)).trans st2, ?_⟩
          · rw [hstep]
            simp only [List.append_assoc, List.cons_append] at g2 ⊢
            exact g2
          · have := hw.2.1.len
            rcases t2 with t2 | ⟨j, e, t2⟩
            · left; rw [t2]; simp
            · right; exact ⟨j, e, by simp at t2; omega⟩
        · simp only [decide_eq_false_iff_not] at hc
          rw [List.take_of_length_le (by omega)] at hw
          refine Ev.seq (Ev.region ?_)
          apply EvOps.run
          · intro call; simp [hl, h0]; exact rfl
          exact Ev.ret ⟨x', by simp [Try.f63, hl], loud_if hw.2.2 hw⟩
      · exact ⟨_, h1, x1, d1, 0, rfl, by simp [hl], by simp [h0], by simp [hl, rs], by simp [hl], by simp [hl], by omega, rfl, by simpa [encRs] using hw⟩
    simp only [beq_eq_false_iff_ne, ne_eq] at c0 c1 c2 c3 c5
    have he : encR (.mk k s n l) = [36, 45, 49, 13, 10] := by simp only [encR, c0, c1, c2, c3, c5, if_false]
    rw [he] at hlen ⊢
    simp only [List.length_cons, List.length_nil] at hlen
    refine Ev.seq (Ev.region (EvOps.take 1 ?_))
    apply EvOps.run
    · intro call; simp [hl, h0]; exact rfl
    refine EvOps.appendB (x := x) (y := .str [36, 45, 49, 13, 10]) rfl rfl (by simp) (by simp [hl]) Try.underlying43 Try.underlying9 rfl Ty.s5 Ty.b5 Ty.z5 rfl hg' (headOk_bytes _) (ys := ofBytes [36, 45, 49, 13, 10]) (by simp [elemsA]) (by simp only [ofBytes_length, List.length_cons, List.length_nil]; omega) (by simp) ?_
    intro x1 h1 d1 g1 s1 t1
    apply EvOps.run
    · intro call; simp [hl]; exact rfl
    exact Ev.ret ⟨x1, by simp [Try.f63, hl], loud_if (fin _ _ _ _ g1 s1 (by simp) t1).2.2 (fin _ _ _ _ g1 s1 (by simp) t1)⟩
termination_by r => SizeOf.sizeOf r
end Go.Proofs.Ytnifldbmflkmpaa

/-
  request.Print, the reference's; Same; command, of what Print writes.
-/
namespace Go.Proofs.Ytnifldbmflkmpaa
open Go Ev
set_option linter.unusedVariables false
set_option linter.unusedSimpArgs false
set_option maxRecDepth 10000
/-- May there be such a command? -/
def okC (ws : List S) : Bool := decide (1 ≤ ws.length) && decide (ws.length ≤ 128) && ws.all fun w => decide (w.length ≤ 4096)
theorem okC_iff {ws : List S} (h : okC ws = true) : 1 ≤ ws.length ∧ ws.length ≤ 128 ∧ ∀ w ∈ ws, w.length ≤ 4096 := by
  simp only [okC, Bool.and_eq_true, decide_eq_true_eq, List.all_eq_true] at h
  exact ⟨h.1.1, h.1.2, h.2⟩
theorem encWs_len : ∀ (ws : List S), (∀ w ∈ ws, w.length ≤ 4096) → (encWs ws).length ≤ 4110 * ws.length
  | [], _ => by simp [encWs]
  | w :: ws, h => by
    have ih := encWs_len ws fun x hx => h x (List.mem_cons_of_mem _ hx)
    have h1 := encW_len w (h w (by simp))
    have h2 := head_len 36 w.length (by have := h w (by simp); omega)
    have := h w (by simp)
    have e : encWs (w :: ws) = encW w ++ encWs ws := rfl
    rw [e, List.length_append, List.length_cons]
    omega
theorem encC_len {ws : List S} (h : okC ws = true) : (encC ws).length ≤ 600000 := by
  obtain ⟨h1, h2, h3⟩ := okC_iff h
  have := encWs_len ws h3
  have := head_len 42 ws.length (by omega)
  simp only [encC, List.length_append, List.length_cons]
  omega
theorem prefix_words : ∀ (ws : List S) (t u : S), t ++ u = encWs ws → u ≠ [] → ∃ (J : Nat) (h : J < ws.length) (T u' : S), t = encWs (ws.take J) ++ T ∧ T ++ u' = encW ws[J] ∧ u' ≠ []
  | [], t, u, h, hu => by
    simp only [encWs, List.flatMap_nil, List.append_eq_nil_iff] at h
    exact (hu h.2).elim
  | w :: ws, t, u, h, hu => by
    have e : encWs (w :: ws) = encW w ++ encWs ws := rfl
    rw [e] at h
    by_cases hl : t.length < (encW w).length
    · refine ⟨0, by simp, t, (encW w).drop t.length, by simp [encWs], ?_, ?_⟩
      · have : (encW w).take t.length = t := by
          have h2 : (t ++ u).take t.length = t := by simp
          rw [h, List.take_append_of_le_length (Nat.le_of_lt hl)] at h2
          exact h2
        simp only [List.getElem_cons_zero]
        have h3 := List.take_append_drop t.length (encW w)
        rw [this] at h3
        exact h3
      · intro h0
        have := congrArg List.length h0
        simp at this
        omega
    · have h1 : t.take (encW w).length = encW w := by
        have h2 : (t ++ u).take (encW w).length = t.take (encW w).length := List.take_append_of_le_length (by omega)
        rw [← h2, h]; simp
      have h2 : t.drop (encW w).length ++ u = encWs ws := by
        have h3 : (t ++ u).drop (encW w).length = t.drop (encW w).length ++ u := List.drop_append_of_le_length (by omega)
        rw [← h3, h]; simp
      obtain ⟨J, hJ, T, u', k1, k2, k3⟩ := prefix_words ws _ u h2 hu
      refine ⟨J + 1, by simpa using hJ, T, u', ?_, by simpa using k2, k3⟩
      rw [List.take_succ_cons, show encWs (w :: ws.take J) = encW w ++ encWs (ws.take J) from rfl, List.append_assoc, ← k1]
      conv => lhs; rw [← List.take_append_drop (encW w).length t, h1]
theorem cmd_whole (ws : List S) (h : okC ws = true) : Ret cfg 75 [.str (encC ws)] (.tuple [strs ws, .int .i64 ((encC ws).length : Nat), .int .i64 0]) := by
  obtain ⟨h1, h2, h3⟩ := okC_iff h
  have hl := encWs_len ws h3
  have := cmd_list ws h3 h1 h2 ws.length (Nat.le_refl _) [] (by simp) (by rw [List.take_length]; omega) (.inl rfl)
  rw [if_pos rfl, List.take_length, List.append_nil] at this
  have e : (encC ws).length = (headS 42 ws.length).length + 2 + (encWs ws).length := by simp [encC]; omega
  rw [e]
  exact this
theorem cmd_part (ws : List S) (h : okC ws = true) (t u : S) (ht : t ++ u = encC ws) (hu : u ≠ []) : Ret cfg 75 [.str t] (.tuple [strs [], .int .i64 0, .int .i64 0]) := by
  obtain ⟨h1, h2, h3⟩ := okC_iff h
  have hh := head_len 42 ws.length (by omega)
  by_cases hl : t.length < (headS 42 ws.length).length + 2
  · exact cmd_none t (prefix_no10 (head_no10 42 (by decide) _) ht hl) (by omega)
  · obtain ⟨t', rfl, h4⟩ := prefix_split ht (by omega)
    obtain ⟨J, hJ, T, u', rfl, k2, k3⟩ := prefix_words ws t' u h4 hu
    have hlw := encWs_len (ws.take J) fun w hw => h3 w (List.mem_of_mem_take hw)
    rw [List.length_take] at hlw
    have hwl := h3 ws[J] (List.getElem_mem hJ)
    have hTl : T.length ≤ (encW ws[J]).length := by rw [← k2]; simp
    rw [encW_len _ hwl] at hTl
    have := head_len 36 ws[J].length (by omega)
    have hc := cmd_list ws h3 h1 h2 J (by omega) T (by omega) (by omega) (.inr ⟨hJ, u', k2, k3⟩)
    rw [if_neg (by omega)] at hc
    exact hc
theorem long71_ok (s : S) : Ret cfg 71 [.str s] (.bool (decide (4096 < s.length))) := by
  refine Ret.of_body rfl rfl Try.func71 rfl (by simp) (by simp) ?_
  refine Ev.seq (Ev.region ?_)
  apply EvOps.run
  · intro call; simp [Try.f71]; exact rfl
  refine Ev.seq (Ev.region ?_)
  apply EvOps.run
  · intro call; simp; exact rfl
  exact Ev.ret ⟨.bool (decide ((4096 : Int) < s.length)), by simp [Try.f71], by simp; omega⟩
def longC (ss : List S) : Bool := ss.any fun s => decide (4096 < s.length)
theorem idxC_ok (ss : List S) (hb : ss.length < 2 ^ 40) : ∃ j : Int, Ret cfg 84 [strs ss, .func (.func 71) [] []] (.int .i64 j) ∧ decide (0 ≤ j) = longC ss := by
  obtain ⟨j, hj, hjr⟩ : ∃ j : Int, decide (0 ≤ j) = longC ss ∧ ((j = -1 ∧ longC ss = false) ∨ (∃ i : Nat, j = i ∧ ∃ h : i < ss.length, decide (4096 < (ss[i]).length) = true ∧ ∀ t (ht : t < ss.length), t < i → decide (4096 < (ss[t]).length) = false)) := by
    clear hb
    induction ss with
    | nil => exact ⟨-1, by simp [longC], .inl ⟨rfl, by simp [longC]⟩⟩
    | cons a l ih =>
      cases ha : decide (4096 < a.length) with
      | true => exact ⟨0, by simp [longC, ha], .inr ⟨0, rfl, by simp, ha, fun t _ h => by omega⟩⟩
      | false =>
        obtain ⟨j, h1, h2⟩ := ih
        have e : longC (a :: l) = longC l := by simp only [longC, List.any_cons, ha, Bool.false_or]
        rcases h2 with ⟨rfl, h2⟩ | ⟨i, rfl, hi, h2, h3⟩
        · exact ⟨-1, by rw [e]; exact h1, .inl ⟨rfl, by rw [e]; exact h2⟩⟩
        · refine ⟨((i + 1 : Nat) : Int), by rw [e, ← h1]; simp, .inr ⟨i + 1, rfl, by simpa using hi, h2, fun t ht h => ?_⟩⟩
          cases t with
          | zero => exact ha
          | succ t => exact h3 t (by simpa using ht) (by omega)
  refine ⟨j, ?_, hj⟩
  refine Ret.of_body rfl rfl Try.func84 rfl (by simp) (by simp) ?_
  refine Ev.seq (Ev.region ?_)
  apply EvOps.run
  · intro call; simp [Try.f84]; exact rfl
  refine Ev.seq (Ev.seq (Ev.region ?_))
  apply EvOps.run
  · intro call; simp [strs]; exact rfl
  refine Ev.block ?_
  refine Ev.loop (fun m st => ∃ (fr : List AV) (i : Nat), st = ⟨fr, [], false⟩ ∧ fr.length = 19 ∧ slotAt fr 0 = some (strs ss) ∧ slotAt fr 1 = some (.func (.func 71) [] []) ∧ slotAt fr 7 = some (.int .i64 (ss.length : Nat)) ∧ slotAt fr 8 = some (.int .i64 (i : Nat)) ∧ i ≤ ss.length ∧ m = ss.length - i ∧ (∀ t (ht : t < ss.length), t < i → decide (4096 < (ss[t]).length) = false)) ?_ ss.length _ ?_
  · rintro m st ⟨fr, i, rfl, hl, h0, h1, h7, h8, hi, rfl, hbe⟩
    refine Ev.seq (Ev.region ?_)
    apply EvOps.run
    · intro call; simp [hl, h7, h8]; exact rfl
    refine Ev.seq (Ev.cond (decide (i < ss.length)) (by simp [hl]) (fun hc => Ev.skip ?_) (fun hc => Ev.exit ?_))
    · simp only [decide_eq_true_eq] at hc
      refine Ev.seq (Ev.block (Ev.seq (Ev.region ?_)))
      apply EvOps.run
      · intro call; simp [hl, h8]; exact rfl
      refine Ev.seq (Ev.region (EvOps.take 5 ?_))
      apply EvOps.run
      · intro call; simp [hl, h0, h1, h8, strs, hc]; exact rfl
      refine EvOps.callv (g := 71) (first := []) (captured := []) (vs := [.str ss[i]]) rfl (by simp [hl]) (by simp) (by simp [hl]) (by simp <;> exact rfl) (long71_ok ss[i]) ?_
      apply EvOps.run
      · intro call; simp; exact rfl
      refine Ev.cond (decide (4096 < (ss[i]).length)) (by simp [hl]) (fun he => ?_) (fun he => Ev.skip ?_)
      · refine Ev.seq (Ev.region ?_)
        apply EvOps.run
        · intro call; simp [hl]; exact rfl
        have hji : j = (i : Int) := by
          rcases hjr with ⟨_, h⟩ | ⟨i', rfl, hi', h2, h3⟩
          · exfalso
            have : longC ss = true := by
              rw [longC, List.any_eq_true]; exact ⟨_, List.getElem_mem hc, he⟩
            rw [h] at this; cases this
          · by_cases h : i' < i
            · rw [hbe i' hi' h] at h2; cases h2
            · by_cases h' : i < i'
              · rw [h3 i hc h'] at he; cases he
              · congr 1; omega
        exact Ev.ret ⟨.int .i64 (i : Nat), by simp [Try.f84, hl], by rw [hji]; rfl⟩
      · refine Ev.region ?_
        apply EvOps.run
        · intro call; simp [hl, h8, wrap_succ i (by omega)]; exact rfl
        refine ⟨ss.length - (i + 1), by omega, _, i + 1, rfl, by simp [hl], by simp [h0], by simp [h1], by simp [h7], by simp [hl], by omega, rfl, fun t ht h => ?_⟩
        by_cases e : t = i
        · subst e; exact he
        · exact hbe t ht (by omega)
    · simp only [decide_eq_false_iff_not] at hc
      refine Ev.seq (Ev.region ?_)
      apply EvOps.run
      · intro call; simp [hl]; exact rfl
      have hji : j = -1 := by
        rcases hjr with ⟨h, _⟩ | ⟨i', rfl, hi', h2, h3⟩
        · exact h
        · rw [hbe i' hi' (by omega)] at h2; cases h2
      exact Ev.ret ⟨.int .i64 (-1), by simp [Try.f84, hl], by rw [hji]; rfl⟩
  · exact ⟨_, 0, rfl, by simp, by simp [strs], by simp, by simp [strs], by simp, by omega, rfl, fun t _ h => by omega⟩
theorem conC_ok (ss : List S) (hb : ss.length < 2 ^ 40) : Ret cfg 70 [strs ss, .func (.func 71) [] []] (.bool (longC ss)) := by
  obtain ⟨j, hr, hj⟩ := idxC_ok ss hb
  refine Ret.of_body rfl rfl Try.func70 rfl (by simp) (by simp) ?_
  refine Ev.seq (Ev.region ?_)
  apply EvOps.run
  · intro call; simp [Try.f70]; exact rfl
  refine Ev.seq (Ev.region (EvOps.take 2 ?_))
  apply EvOps.run
  · intro call; simp; exact rfl
  refine EvOps.call rfl (by simp) (by simp <;> exact rfl) (by simp <;> exact ⟨rfl, rfl⟩) hr ?_
  apply EvOps.run
  · intro call; simp [hj]; exact rfl
  exact Ev.ret ⟨.bool (longC ss), by simp [Try.f70], by simp⟩
theorem okC_long {ws : List S} (h1 : 1 ≤ ws.length) (h2 : ws.length ≤ 128) : okC ws = !longC ws := by
  simp only [okC, longC, h1, h2, decide_true, Bool.true_and]
  clear h1 h2
  induction ws with
  | nil => rfl
  | cons w ws ih =>
    simp only [List.all_cons, List.any_cons, ih, Bool.not_or]
    congr 1
    rw [← decide_not, decide_eq_decide]; omega
/-- What Print writes up to a word. -/
def encUp (ws : List S) (i : Nat) : S := headS 42 ws.length ++ 13 :: 10 :: encWs (ws.take i)
theorem encUp_succ (ws : List S) (i : Nat) (h : i < ws.length) : encUp ws (i + 1) = encUp ws i ++ encW ws[i] := by
  simp only [encUp, encWs_take ws i h, List.append_assoc, List.cons_append]
set_option maxHeartbeats 4000000 in
theorem printC_ok (ws : List S) (hb : ws.length ≤ 1000) : Ret cfg 42 [strs ws] (.L (ofBytes (if okC ws = true then encC ws else []))) := by
  have hcon := conC_ok ws (by omega)
  have hcl : ∀ s : S, cleanL 0 (ofBytes s) = true := cleanL_bytes 0
  refine Ret.of_body rfl rfl Try.func42 rfl (by simp) (by simp [hcl]) ?_
  refine Ev.seq (Ev.region ?_)
  apply EvOps.keep (h' := []) (d' := false) (fun fr => fr.length = 42 ∧ slotAt fr 0 = some (strs ws))
  · intro call; simp [Try.f42]; exact rfl
  · exact ⟨by simp, by simp⟩
  rintro fr ⟨hl, h0⟩
  refine Ev.seq (Ev.mid (fun st => ∃ fr, st = ⟨fr, [], false⟩ ∧ fr.length = 42 ∧ slotAt fr 0 = some (strs ws) ∧ slotAt fr 17 = some (.bool (!okC ws))) ?_ ?_)
  · refine Ev.region ?_
    by_cases e0 : ws.length = 0
    · have hn : ws = [] := List.eq_nil_of_length_eq_zero e0
      subst hn
      apply EvOps.run
      · intro call; simp [hl, h0, strs]; exact rfl
      exact ⟨_, rfl, by simp [hl], by simp [h0, strs], by simp [hl, okC]⟩
    · have e0' : ((ws.length : Int) == 0) = false := by rw [beq_eq_false_iff_ne]; omega
      have hne : ¬ ws = [] := by intro e; subst e; simp at e0
      by_cases e1 : 128 < ws.length
      · apply EvOps.run
        · intro call; simp [hl, h0, strs, e0', hne, show (128 : Int) < ws.length by omega]; exact rfl
        refine ⟨_, rfl, by simp [hl], by simp [h0, strs], ?_⟩
        simp [hl, okC, show ¬ ws.length ≤ 128 by omega]
      · refine EvOps.take 9 ?_
        apply EvOps.keep (h' := []) (d' := false) (fun fr => fr.length = 42 ∧ slotAt fr 0 = some (strs ws) ∧ slotAt fr 14 = some (.bool false))
        · intro call; simp [hl, h0, strs, e0', hne, show ¬ (128 : Int) < ws.length by omega]; exact rfl
        · exact ⟨by simp [hl], by simp [h0, strs], by simp [hl]⟩
        clear hl h0 fr
        rintro fr ⟨hl, h0, h14⟩
        refine EvOps.take 1 ?_
        apply EvOps.run
        · intro call; simp [hl, h0, h14]; exact rfl
        refine EvOps.call rfl (by simp [h14]) (by simp [hl] <;> exact rfl) (by simp <;> exact ⟨rfl, rfl⟩) hcon ?_
        apply EvOps.run
        · intro call; simp [hl, h14]; exact rfl
        refine ⟨_, rfl, by simp [hl], by simp [h0], ?_⟩
        rw [okC_long (by omega) (by omega), Bool.not_not]
        simp [hl]
  clear hl h0 fr
  rintro _ ⟨fr, rfl, hl, h0, h17⟩
  refine Ev.cond (!okC ws) (by simp only [op_tmp, h17]) (fun hn => ?_) (fun hok => Ev.skip ?_)
  · refine Ev.seq (Ev.region ?_)
    apply EvOps.run
    · intro call; simp [hl]; exact rfl
    rw [Bool.not_eq_true'] at hn
    rw [hn]
    exact Ev.ret ⟨.nils, by simp [Try.f42, hl], by simp [ofBytes]⟩
  rw [Bool.not_eq_false'] at hok
  rw [hok, if_pos rfl]
  obtain ⟨k1, k2, k3⟩ := okC_iff hok
  have hup : ∀ i, (encUp ws i).length ≤ 700000 := fun i => by
    have h1 := encWs_len (ws.take i) fun w hw => k3 w (List.mem_of_mem_take hw)
    have h2 := head_len 42 ws.length (by omega)
    rw [List.length_take] at h1
    simp only [encUp, List.length_append, List.length_cons]
    omega
  have hp := print_ok (ws.length : Int) (by omega) (by omega)
  rw [decS_nat] at hp
  have hdl := digs_length 9 ws.length (by omega) (by omega)
  have hu0 : encUp ws 0 = 42 :: (digs ws.length ++ [13, 10]) := by simp [encUp, headS, encWs]
  have huN : encUp ws ws.length = encC ws := by simp [encUp, encC]
  refine Ev.seq (Ev.region (EvOps.take 2 ?_))
  apply EvOps.run
  · intro call; simp [hl, h0, strs]; exact rfl
  refine EvOps.call rfl (by simp) (by simp [hl] <;> exact rfl) (by simp <;> exact rfl) hp ?_
  generalize digs ws.length = D at hdl hu0
  apply EvOps.keep (h' := []) (d' := false) (fun fr => fr.length = 42 ∧ slotAt fr 0 = some (strs ws) ∧ slotAt fr 3 = some (.str (encUp ws 0)))
  · intro call; simp [hl, show 1 + D.length ≤ 140737488355328 by omega, show D.length + 1 ≤ 140737488355328 by omega, show D.length + 1 + 2 ≤ 140737488355328 by omega]; exact rfl
  · exact ⟨by simp [hl], by simp [h0, strs], by simp [hl, hu0]⟩
  clear hl h0 h17 fr
  rintro fr ⟨hl, h0, h3⟩
  refine Ev.seq (Ev.seq (Ev.region ?_))
  apply EvOps.run
  · intro call; simp [hl, h0, strs]; exact rfl
  refine Ev.block ?_
  refine Ev.loop (fun m st => ∃ (fr : List AV) (i : Nat), st = ⟨fr, [], false⟩ ∧ fr.length = 42 ∧ slotAt fr 3 = some (.str (encUp ws i)) ∧ slotAt fr 23 = some (strs ws) ∧ slotAt fr 24 = some (.int .i64 (ws.length : Nat)) ∧ slotAt fr 25 = some (.int .i64 (i : Nat)) ∧ i ≤ ws.length ∧ m = ws.length - i) ?_ ws.length _ ?_
  · clear hl h0 h3 fr
    rintro m st ⟨fr, i, rfl, hl, h3, h23, h24, h25, hi, rfl⟩
    refine Ev.seq (Ev.region ?_)
    apply EvOps.run
    · intro call; simp [hl, h24, h25]; exact rfl
    refine Ev.seq (Ev.cond (decide (i < ws.length)) (by simp [hl]) (fun hc => Ev.skip ?_) (fun hc => Ev.exit ?_))
    · simp only [decide_eq_true_eq] at hc
      have hwl := k3 ws[i] (List.getElem_mem hc)
      have hpw := print_ok (ws[i].length : Int) (by omega) (by omega)
      rw [decS_nat] at hpw
      have hdw := digs_length 9 ws[i].length (by omega) (by omega)
      have hue := hup i
      have hus := encUp_succ ws i hc
      have hew : encW ws[i] = 36 :: (digs ws[i].length ++ [13, 10] ++ ws[i] ++ [13, 10]) := by simp [encW, headS]
      rw [hew] at hus
      refine Ev.seq (Ev.block (Ev.seq (Ev.region ?_)))
      apply EvOps.keep (h' := []) (d' := false) (fun fr => fr.length = 42 ∧ slotAt fr 3 = some (.str (encUp ws i)) ∧ slotAt fr 23 = some (strs ws) ∧ slotAt fr 24 = some (.int .i64 (ws.length : Nat)) ∧ slotAt fr 25 = some (.int .i64 (i : Nat)) ∧ slotAt fr 5 = some (.str ws[i]))
      · intro call; simp [hl, h23, h25, strs, hc]; exact rfl
      · exact ⟨by simp [hl], by simp [h3], by simp [h23, strs], by simp [h24], by simp [h25], by simp [hl]⟩
      clear hl h3 h23 h24 h25 fr
      rintro fr ⟨hl, h3, h23, h24, h25, h5⟩
      refine Ev.region (EvOps.take 3 ?_)
      apply EvOps.run
      · intro call; simp [hl, h3, h5]; exact rfl
      refine EvOps.call rfl (by simp) (by simp [hl] <;> exact rfl) (by simp <;> exact rfl) hpw ?_
      generalize digs ws[i].length = Dw at hdw hus
      obtain ⟨E, hE⟩ : ∃ E, E = encUp ws i := ⟨_, rfl⟩
      rw [← hE] at hue hus h3
      apply EvOps.keep (h' := []) (d' := false) (fun fr => fr.length = 42 ∧ slotAt fr 3 = some (.str (encUp ws (i + 1))) ∧ slotAt fr 23 = some (strs ws) ∧ slotAt fr 24 = some (.int .i64 (ws.length : Nat)) ∧ slotAt fr 25 = some (.int .i64 (i : Nat)))
      · intro call; simp [hl, h5, ← hE, show 1 + Dw.length ≤ 140737488355328 by omega, show Dw.length + 1 ≤ 140737488355328 by omega, show Dw.length + 1 + 2 ≤ 140737488355328 by omega, show Dw.length + 2 + 1 + ws[i].length ≤ 140737488355328 by omega, show Dw.length + (ws[i].length + 1 + 1) ≤ 140737488355325 by omega, show Dw.length + (ws[i].length + 2) + 1 + 2 ≤ 140737488355328 by omega, show E.length + (Dw.length + (ws[i].length + 2 + 1 + 1) + 1) ≤ 140737488355328 by omega]; exact rfl
      · exact ⟨by simp [hl], by simp [hl, hus], by simp [h23], by simp [h24], by simp [h25]⟩
      clear hl h3 h23 h24 h25 h5 fr
      rintro fr ⟨hl, h3, h23, h24, h25⟩
      refine Ev.region ?_
      apply EvOps.run
      · intro call; simp [hl, h25, wrap_succ i (by omega)]; exact rfl
      exact ⟨ws.length - (i + 1), by omega, _, i + 1, rfl, by simp [hl], by simp [h3], by simp [h23], by simp [h24], by simp [hl], by omega, rfl⟩
    · simp only [decide_eq_false_iff_not] at hc
      have hin : i = ws.length := by omega
      subst hin
      rw [huN] at h3
      refine Ev.seq (Ev.region ?_)
      apply EvOps.run
      · intro call; simp [hl, h3]; exact rfl
      refine Ev.ret ⟨.list (ofBytes (encC ws)) true none (some 0), by simp [Try.f42, hl], ?_⟩
      simp only [strip_list, stripL_bytes]
  · exact ⟨_, 0, rfl, by simp [hl], by simp [h3], by simp [hl, strs], by simp [hl], by simp [hl], by omega, rfl⟩
end Go.Proofs.Ytnifldbmflkmpaa

/-
  request.New, Waiting, Feed; the reference's Same.
-/
namespace Go.Proofs.Ytnifldbmflkmpaa
open Go Ev
set_option linter.unusedVariables false
set_option linter.unusedSimpArgs false
set_option maxRecDepth 10000
theorem new_ok (h : Heap) : RetI cfg 41 [] h (fun v h' d' => v = .ptr h.length 0 ∧ h' = h ++ [.cells [.str [], .int .i64 0]]) := by
  refine RetI.of_body rfl rfl Try.func41 rfl ?_
  refine Ev.seq (Ev.region ?_)
  apply EvOps.run
  · intro call; simp [Try.f41]; exact rfl
  refine Ev.seq (Ev.region ?_)
  apply EvOps.run
  · intro call; simp [buildA, structPlaces, fillA, splice]; exact rfl
  refine Ev.ret ⟨.ptr h.length 0, by simp [Try.f41], ?_⟩
  rw [if_neg (by simp [AV.clean])]
  exact ⟨rfl, rfl⟩
theorem waiting_ok (h : Heap) (q : Nat) (b : S) (hq : h[q]? = some (.cells [.str b, .int .i64 0])) : RetI cfg 46 [.ptr q 0] h (fun v h' d' => v = .int .i64 (b.length : Nat) ∧ h' = h) := by
  refine RetI.of_body rfl rfl Try.func46 rfl ?_
  refine Ev.seq (Ev.region ?_)
  apply EvOps.run
  · intro call; simp [Try.f46]; exact rfl
  refine Ev.seq (Ev.region ?_)
  apply EvOps.run
  · intro call; simp [hq]; exact rfl
  exact Ev.ret ⟨.int .i64 (b.length : Nat), by simp [Try.f46], quiet_if (by simp) ⟨rfl, rfl⟩⟩
/-- Lists of octets. -/
def chunks (css : List S) : AV := .L (css.map fun c => .L (ofBytes c))
theorem chunks_clean (css : List S) : (chunks css).clean 0 = true := by
  simp only [chunks, clean_list]
  exact cleanL_map 0 (fun c : S => AV.L (ofBytes c)) (fun c => by simp only [clean_list]; exact cleanL_bytes 0 c) css
theorem bytes_all (s : S) : (ofBytes s).all isByteA = true := by
  simp [ofBytes, isByteA]
theorem listsOf_chunks : ∀ css : List S, listsOf? (css.map fun c => AV.L (ofBytes c)) = some (css.map ofBytes)
  | [] => rfl
  | c :: css => by
    simp only [List.map_cons, listsOf?, bytes_all, if_true, listsOf_chunks css, Option.map_some]
theorem flatten_bytes : ∀ css : List S, (css.map ofBytes).flatten = ofBytes css.flatten
  | [] => rfl
  | c :: css => by rw [List.map_cons, List.flatten_cons, List.flatten_cons, flatten_bytes css, ofBytes_append]
theorem concat_ok (css : List S) (hne : css ≠ []) (hl : css.length ≤ 1000) (hT : css.flatten.length ≤ 1000000000) : Ret cfg 74 [chunks css] (.L (ofBytes css.flatten)) := by
  refine Ret.of_prim (p := concatA) rfl (by simp only [cleanL_cons, cleanL_nil, chunks_clean, Bool.and_true]) ?_ (by simp only [clean_list]; exact cleanL_bytes 0 _)
  simp only [concatA, chunks, listsOf_chunks, Option.bind_some]
  rw [if_pos ⟨by simpa using hne, by simpa using hl, by rw [flatten_bytes, ofBytes_length]; omega⟩, flatten_bytes]
theorem set_same {h : Heap} {q : Nat} {x : AO} (hq : h[q]? = some x) : h.set q x = h := by
  apply List.ext_getElem?
  intro i
  rw [List.getElem?_set]
  split
  · rename_i e
    subst e
    have := (List.getElem?_eq_some_iff.1 hq).1
    rw [if_pos this, hq]
  · rfl
/-- What Feed leaves. -/
structure Fed (RES : List (List S)) (CUR : S) (q : Nat) (h : Heap) (v : AV) (h' : Heap) : Prop where
  out : ∃ o, v = .tuple [o, .int .i64 0] ∧ Grow 1 h' o (RES.map strs) ∧ ∀ i, tokOf o = some i → h.length ≤ i
  cur : h'[q]? = some (.cells [.str CUR, .int .i64 0])
  len : h.length ≤ h'.length
  old : ∀ i, i < h.length → i ≠ q → h'[i]? = h[i]?
set_option maxHeartbeats 4000000 in
theorem feed_ok (h : Heap) (q : Nat) (b : S) (hq : h[q]? = some (.cells [.str b, .int .i64 0])) (C : AV) (css : List S) (hC : C.strip = chunks css) (hne : css ≠ []) (hl1000 : css.length ≤ 1000) (hT : b.length + css.flatten.length ≤ 1000000000)
    (RES : List (List S)) (CUR : S) (hend : Ret cfg 75 [.str CUR] (.tuple [strs [], .int .i64 0, .int .i64 0]))
    (hcase : (RES = [] ∧ CUR = b ++ css.flatten) ∨ (∃ ws : List S, RES = [ws] ∧ CUR = [] ∧ ws ≠ [] ∧ ws.length ≤ 1000 ∧ b ++ css.flatten ≠ [] ∧ Ret cfg 75 [.str (b ++ css.flatten)] (.tuple [strs ws, .int .i64 ((b ++ css.flatten).length : Nat), .int .i64 0]))) :
    RetI cfg 44 [.ptr q 0, C] h (fun v h' d' => Fed RES CUR q h v h') := by
  have hql : q < h.length := (List.getElem?_eq_some_iff.1 hq).1
  have hcon := concat_ok css hne hl1000 (by omega)
  obtain ⟨B, hB⟩ : ∃ B, B = b ++ css.flatten := ⟨_, rfl⟩
  have hBl : B.length ≤ 1000000000 := by rw [hB, List.length_append]; omega
  refine RetI.of_body rfl rfl Try.func44 rfl ?_
  refine Ev.seq (Ev.region ?_)
  apply EvOps.keep (h' := h) (d' := false) (fun fr => fr.length = 68 ∧ slotAt fr 0 = some (.ptr q 0) ∧ slotAt fr 1 = some C)
  · intro call; simp [Try.f44]; exact rfl
  · exact ⟨by simp, by simp, by simp⟩
  rintro fr ⟨hl, h0, h1⟩
  refine Ev.seq (Ev.region ?_)
  apply EvOps.run
  · intro call; simp [hl]; exact rfl
  refine Ev.seq (Ev.seq (Ev.region ?_))
  apply EvOps.keep (h' := h) (d' := false) (fun fr => fr.length = 68 ∧ slotAt fr 0 = some (.ptr q 0) ∧ slotAt fr 1 = some C ∧ slotAt fr 6 = some .nils ∧ slotAt fr 14 = some (.bool false))
  · intro call; simp [hl, h0, hq]; exact rfl
  · exact ⟨by simp [hl], by simp [h0], by simp [h1], by simp [hl], by simp [hl]⟩
  clear hl h0 h1 fr
  rintro fr ⟨hl, h0, h1, h6, h14⟩
  refine Ev.cond false (by simp [h14]) (fun h => by simp at h) (fun _ => Ev.skip ?_)
  refine Ev.seq (Ev.region (EvOps.take 5 ?_))
  apply EvOps.run
  · intro call; simp [hl, h0, h1, hq]; exact rfl
  refine EvOps.call rfl (by simp) (by simp [hl] <;> exact rfl) (by simp [hC] <;> exact rfl) hcon ?_
  have hadd : b.length + css.flatten.length ≤ 140737488355328 := by omega
  obtain ⟨Y, hY⟩ : ∃ Y : S, Y = css.flatten := ⟨_, rfl⟩
  rw [← hY] at hadd
  apply EvOps.keep (h' := h.set q (.cells [.str B, .int .i64 0])) (d' := decide (q < h.length)) (fun fr => fr.length = 68 ∧ slotAt fr 0 = some (.ptr q 0) ∧ slotAt fr 6 = some .nils)
  · intro call; simp [hl, hq, ← hY, bytesOf_ofBytes, hadd, splice, hB]; exact rfl
  · exact ⟨by simp [hl], by simp [h0], by simp [h6]⟩
  clear hl h0 h1 h6 h14 fr
  rintro fr ⟨hl, h0, h6⟩
  rw [decide_eq_true hql]
  have hH : (h.set q (.cells [.str B, .int .i64 0]))[q]? = some (.cells [.str B, .int .i64 0]) := by rw [List.getElem?_set]; simp [hql]
  have hHl : h.length ≤ (h.set q (.cells [.str B, .int .i64 0])).length := by simp
  have hHo : ∀ i, i < h.length → i ≠ q → (h.set q (.cells [.str B, .int .i64 0]))[i]? = h[i]? := fun i _ hi => by rw [List.getElem?_set]; simp [Ne.symm hi]
  generalize h.set q (.cells [.str B, .int .i64 0]) = H at hH hHl hHo ⊢
  refine Ev.block ?_
  refine Ev.loop (fun m st => ∃ (fr : List AV) (hh : Heap) (o : AV) (res : List (List S)) (cur : S), st = ⟨fr, hh, true⟩ ∧ fr.length = 68 ∧ slotAt fr 0 = some (.ptr q 0) ∧ slotAt fr 6 = some o ∧ Grow 1 hh o (res.map strs) ∧ (∀ i, tokOf o = some i → h.length ≤ i) ∧ hh[q]? = some (.cells [.str cur, .int .i64 0]) ∧ h.length ≤ hh.length ∧ (∀ i, i < h.length → i ≠ q → hh[i]? = h[i]?) ∧
      ((m = 0 ∧ res = RES ∧ cur = CUR) ∨ (m = 1 ∧ res = [] ∧ cur = B ∧ ∃ ws : List S, RES = [ws] ∧ CUR = [] ∧ ws ≠ [] ∧ ws.length ≤ 1000 ∧ B ≠ [] ∧ Ret cfg 75 [.str B] (.tuple [strs ws, .int .i64 (B.length : Nat), .int .i64 0])))) ?_ (if RES = [] then 0 else 1) _ ?_
  · clear hl h0 h6 hH hHl hHo fr H
    rintro m st ⟨fr, hh, o, res, cur, rfl, hl, h0, h6, hg, htok, hcur, hlen, hold, hst⟩
    have hqh : q < hh.length := by omega
    have hss := set_same hcur
    rcases hst with ⟨rfl, rfl, rfl⟩ | ⟨rfl, rfl, rfl, ws, hRES, hCUR, hws, hwsl, hBne, hcmd⟩
    · -- nothing whole is left
      refine Ev.block (Ev.seq (Ev.region (EvOps.take 4 ?_)))
      apply EvOps.run
      · intro call; simp [hl, h0, hcur]; exact rfl
      refine EvOps.call rfl (by simp) (by simp [hl] <;> exact rfl) (by simp <;> exact rfl) hend ?_
      apply EvOps.keep (h' := hh) (d' := true) (fun fr => fr.length = 68 ∧ slotAt fr 0 = some (.ptr q 0) ∧ slotAt fr 6 = some o ∧ slotAt fr 8 = some (.int .i64 0) ∧ slotAt fr 9 = some (.int .i64 0))
      · intro call; simp [hl]; exact rfl
      · exact ⟨by simp [hl], by simp [h0], by simp [h6], by simp [hl], by simp [hl]⟩
      clear hl h0 h6 fr
      rintro fr ⟨hl, h0, h6, h8, h9⟩
      refine Ev.seq (Ev.seq (Ev.region ?_))
      apply EvOps.run
      · intro call; simp [hl, h0, h9, hcur, splice, hss]; exact rfl
      refine Ev.seq (Ev.region ?_)
      apply EvOps.run
      · intro call; simp [hl, h9]; exact rfl
      refine Ev.cond false (by simp [hl]) (fun h => by simp at h) (fun _ => Ev.skip ?_)
      refine Ev.seq (Ev.seq (Ev.region ?_))
      apply EvOps.run
      · intro call; simp [hl, h8]; exact rfl
      refine Ev.cond true (by simp [hl]) (fun _ => ?_) (fun h => by simp at h)
      refine Ev.seq (Ev.region ?_)
      apply EvOps.run
      · intro call; simp [hl, h6]; exact rfl
      exact Ev.ret ⟨.tuple [o, .int .i64 0], by simp [Try.f44, hl], loud_if (.inl rfl) ⟨⟨o, rfl, hg, htok⟩, hcur, hlen, hold⟩⟩
    · -- a whole command
      have hB0 : ((cur.length : Int) == 0) = false := by
        rw [beq_eq_false_iff_ne]
        have := List.length_pos_iff.2 hBne
        omega
      have hwl0 : ¬ ws = [] := hws
      have hwpos := List.length_pos_iff.2 hws
      refine Ev.block (Ev.seq (Ev.region (EvOps.take 4 ?_)))
      apply EvOps.run
      · intro call; simp [hl, h0, hcur]; exact rfl
      refine EvOps.call rfl (by simp) (by simp [hl] <;> exact rfl) (by simp <;> exact rfl) hcmd ?_
      apply EvOps.keep (h' := hh) (d' := true) (fun fr => fr.length = 68 ∧ slotAt fr 0 = some (.ptr q 0) ∧ slotAt fr 6 = some o ∧ slotAt fr 7 = some (strs ws) ∧ slotAt fr 8 = some (.int .i64 (cur.length : Nat)) ∧ slotAt fr 9 = some (.int .i64 0))
      · intro call; simp [hl]; exact rfl
      · exact ⟨by simp [hl], by simp [h0], by simp [h6], by simp [hl], by simp [hl], by simp [hl]⟩
      clear hl h0 h6 fr
      rintro fr ⟨hl, h0, h6, h7, h8, h9⟩
      refine Ev.seq (Ev.seq (Ev.region ?_))
      apply EvOps.run
      · intro call; simp [hl, h0, h9, hcur, splice, hss]; exact rfl
      refine Ev.seq (Ev.region ?_)
      apply EvOps.run
      · intro call; simp [hl, h9]; exact rfl
      refine Ev.cond false (by simp [hl]) (fun h => by simp at h) (fun _ => Ev.skip ?_)
      refine Ev.seq (Ev.seq (Ev.region ?_))
      apply EvOps.run
      · intro call; simp [hl, h8, hB0, hBne]; exact rfl
      refine Ev.cond false (by simp [hl]) (fun h => by simp at h) (fun _ => Ev.skip ?_)
      refine Ev.seq (Ev.region ?_)
      apply EvOps.keep (h' := hh.set q (.cells [.str [], .int .i64 0])) (d' := true) (fun fr => fr.length = 68 ∧ slotAt fr 0 = some (.ptr q 0) ∧ slotAt fr 6 = some o ∧ slotAt fr 7 = some (strs ws))
      · intro call; simp [hl, h0, h8, hcur, splice, sliceA]; exact rfl
      · exact ⟨by simp [hl], by simp [h0], by simp [h6], by simp [h7]⟩
      clear hl h0 h6 h7 h8 h9 fr
      rintro fr ⟨hl, h0, h6, h7⟩
      refine Ev.seq (Ev.region ?_)
      apply EvOps.run
      · intro call; simp [hl, h7, strs]; exact rfl
      refine Ev.cond true (by simp [hl]; exact hwpos) (fun _ => ?_) (fun h => by simp at h)
      have hg2 := hg.set q (.cells [.str [], .int .i64 0]) (fun i e => by have := htok i e; omega)
      have hq2 : (hh.set q (.cells [.str [], .int .i64 0]))[q]? = some (.cells [.str [], .int .i64 0]) := by rw [List.getElem?_set]; simp [hqh]
      have hl2 : (hh.set q (.cells [.str [], .int .i64 0])).length = hh.length := by simp
      have ho2 : ∀ i, i < h.length → i ≠ q → (hh.set q (.cells [.str [], .int .i64 0]))[i]? = h[i]? := fun i hi hne => by rw [List.getElem?_set_ne (Ne.symm hne)]; exact hold i hi hne
      generalize hh.set q (.cells [.str [], .int .i64 0]) = H2 at hg2 hq2 hl2 ho2 ⊢
      refine Ev.region (EvOps.take 3 ?_)
      apply EvOps.run
      · intro call; simp [hl, h6, h7, buildSliceA, strs]; exact rfl
      refine EvOps.appendB (x := o) (y := .list [strs ws] true (some 1) none) rfl rfl (by simp) (by simp [hl, strs]) Try.underlying22 Try.underlying22 rfl Ty.s24 Ty.b24 Ty.z24 rfl hg2 (by simp) (ys := [strs ws]) (by simp [elemsA, strs]) (by simp) (by simp; omega) ?_
      intro out1 h1' d1 hg1 hst1 _
      have htq : tokOf o ≠ some q := fun e => by have := htok q e; omega
      apply EvOps.run
      · intro call; simp [hl]; exact rfl
      refine ⟨0, by omega, _, h1', out1, [ws], [], by simp; exact rfl, by simp [hl], by simp [h0], by simp [hl], by simpa using hg1, ?_, ?_, ?_, ?_, .inl ⟨rfl, hRES.symm, hCUR.symm⟩⟩
      · intro i e
        rcases hst1.tok with k | k
        · rw [k] at e; exact htok i e
        · have := k i e; simp at this; omega
      · have := hst1.old q (by simp; omega) htq
        simp at this
        rw [this]; exact hq2
      · have := hst1.len; simp at this; omega
      · intro i hi hne
        have := hst1.old i (by simp; omega) (fun e => by have := htok i e; omega)
        simp at this
        rw [this]; exact ho2 i hi hne
  · rcases hcase with ⟨e1, e2⟩ | ⟨ws, e1, e2, e3, e4, e5, e6⟩
    · exact ⟨fr, H, .nils, [], B, by simp [e1], hl, h0, h6, Grow.nils _ _, by simp [tokOf], hH, hHl, hHo, .inl ⟨by simp [e1], e1.symm, by rw [hB, e2]⟩⟩
    · exact ⟨fr, H, .nils, [], B, rfl, hl, h0, h6, Grow.nils _ _, by simp [tokOf], hH, hHl, hHo, .inr ⟨by simp [e1], rfl, rfl, ws, e1, e2, e3, e4, by rw [hB]; exact e5, by rw [hB]; exact e6⟩⟩
end Go.Proofs.Ytnifldbmflkmpaa

/-
  The reference's Print of a number and of a command; Same; the document's example.
-/
namespace Go.Proofs.Ytnifldbmflkmpaa
open Go Ev
set_option linter.unusedVariables false
set_option linter.unusedSimpArgs false
set_option maxRecDepth 100000
theorem wrap_u64 (n : Nat) (h : n < 2 ^ 64) : IntKind.wrap .u64 (n : Int) = n := by
  simp [IntKind.wrap, IntKind.bits, IntKind.signed]; omega
theorem digs_snoc (n : Nat) : digs n = (if n / 10 = 0 then [] else digs (n / 10)) ++ [UInt8.ofNat (48 + n % 10)] := by
  rw [digs]
  by_cases h : n < 10
  · rw [if_pos h, if_pos (by omega), List.nil_append, Nat.mod_eq_of_lt h]
  · rw [if_neg h, if_neg (by omega)]
set_option maxHeartbeats 2000000 in
theorem refNum_ok (n : Nat) (hn : n < 2 ^ 40) : Ret cfg 73 [.int .i64 (n : Nat)] (.str (digs n)) := by
  refine Ret.of_body rfl rfl Try.func73 rfl (by simp) (by simp) ?_
  refine Ev.seq (Ev.region ?_)
  apply EvOps.run
  · intro call; simp [Try.f73]; exact rfl
  refine Ev.seq (Ev.region ?_)
  apply EvOps.run
  · intro call; simp [wrap_u64 n (by omega)]; exact rfl
  refine Ev.seq (Ev.region ?_)
  apply EvOps.run
  · intro call; simp; exact rfl
  refine Ev.seq (Ev.seq (Ev.region ?_))
  apply EvOps.run
  · intro call; simp [show ¬ ((n : Int) < 0) by omega]; exact rfl
  refine Ev.cond false (by simp) (fun h => by simp at h) (fun _ => Ev.skip ?_)
  refine Ev.seq (Ev.region ?_)
  apply EvOps.run
  · intro call; simp; exact rfl
  refine Ev.block ?_
  refine Ev.loop (fun m st => ∃ (fr : List AV) (u : Nat) (acc : S), st = ⟨fr, [], false⟩ ∧ fr.length = 27 ∧ slotAt fr 3 = some (.int .u64 (u : Nat)) ∧ slotAt fr 4 = some (.str []) ∧ slotAt fr 5 = some (.str acc) ∧ digs n = digs u ++ acc ∧ u < 2 ^ 40 ∧ u = m) ?_ n _ ?_
  · rintro u st ⟨fr, u, acc, rfl, hl, h3, h4, h5, hd, hu, rfl⟩
    have hlen := digs_length 13 n (by omega) (by omega)
    rw [hd, List.length_append] at hlen
    have hpos := digs_pos u
    have hm : u % 10 < 10 := Nat.mod_lt _ (by omega)
    have hq : u / 10 < 2 ^ 40 := by omega
    obtain ⟨D, hD⟩ : ∃ D, D = u % 10 := ⟨_, rfl⟩
    obtain ⟨Q, hQ⟩ : ∃ Q, Q = u / 10 := ⟨_, rfl⟩
    have hsn := digs_snoc u
    rw [← hD, ← hQ] at hsn
    rw [← hD] at hm
    rw [← hQ] at hq
    have hmI : (u : Int).tmod 10 = (D : Nat) := by rw [Int.tmod_eq_emod_of_nonneg (by omega)]; omega
    have hqI : (u : Int).tdiv 10 = (Q : Nat) := by rw [Int.tdiv_eq_ediv_of_nonneg (by omega)]; omega
    have hw1 : IntKind.wrap .u64 (D : Int) = D := wrap_u64 D (by omega)
    have hw2 : IntKind.wrap .u64 (48 + (D : Int)) = ((48 + D : Nat) : Int) := by rw [← wrap_u64 (48 + D) (by omega)]; simp
    have hw3 : IntKind.wrap .u8 ((48 + D : Nat) : Int) = ((48 + D : Nat) : Int) := wrap_u8 (48 + D) (by omega)
    have hb8 : UInt8.ofNat (IntKind.wrap .u8 (48 + (D : Int))).toNat = 48 + UInt8.ofNat D := by
      rw [show (48 + (D : Int)) = ((48 + D : Nat) : Int) by omega, hw3, Int.toNat_natCast]
      simp
    have hw4 : IntKind.wrap .u64 (Q : Int) = Q := wrap_u64 Q (by omega)
    refine Ev.block (Ev.seq (Ev.region ?_))
    apply EvOps.run
    · intro call; simp [hl, h3, h5, hmI, hw1, hw2, hw3, buildSliceA, bytesOf, isByteA, show 1 + acc.length ≤ 140737488355328 by omega, show acc.length + 1 ≤ 140737488355328 by omega]; exact rfl
    refine Ev.seq (Ev.region ?_)
    apply EvOps.run
    · intro call; simp [hl, h3, hqI, hw4]; exact rfl
    refine Ev.seq (Ev.region ?_)
    by_cases hz : Q = 0
    · subst hz
      rw [if_pos rfl, List.nil_append] at hsn
      apply EvOps.run
      · intro call; simp [hl]; exact rfl
      refine Ev.cond true (by simp [hl]) (fun _ => ?_) (fun h => by simp at h)
      refine Ev.seq (Ev.region ?_)
      apply EvOps.run
      · intro call; simp [hl, h4, show 1 + acc.length ≤ 140737488355328 by omega, show acc.length + 1 ≤ 140737488355328 by omega]; exact rfl
      refine Ev.ret ⟨.str (digs n), ?_, by simp⟩
      simp [Try.f73, hl, hd, hsn, hb8]
    · rw [if_neg hz] at hsn
      apply EvOps.run
      · intro call; simp [hl, hz]; exact rfl
      refine Ev.cond false (by simp [hl, hz]) (fun h => by simp at h) (fun _ => Ev.skip ?_)
      exact ⟨Q, by omega, _, Q, UInt8.ofNat (48 + D) :: acc, rfl, by simp [hl], by simp [hl], by simp [h4], by simp [hl, hb8], by rw [hd, hsn]; simp [hb8], hq, rfl⟩
  · exact ⟨_, n, [], rfl, by simp, by simp, by simp, by simp, by simp, hn, rfl⟩
theorem awake5_ok : Ret cfg 40 [] (.bool true) := by
  have he : (evalF cfg 80 40 [] []).map (fun x => x.1) = some (.bool true) := by kernel_rfl
  obtain ⟨⟨v, h, d⟩, he, hv⟩ := Option.map_eq_some_iff.1 he
  simp only at hv
  subst hv
  exact Ret.of_eval rfl rfl (by simp) (by simp) he (by simp)
set_option maxHeartbeats 4000000 in
/-- The reference's Print of a command. -/
theorem refCmd_ok (ws : List S) (hb : ws.length ≤ 1000) (hw : ∀ w ∈ ws, w.length ≤ 5000) : Ret cfg 43 [strs ws] (.str (if okC ws = true then encC ws else [])) := by
  refine Ret.of_body rfl rfl Try.func43 rfl (by simp) (by simp) ?_
  refine Ev.seq (Ev.region ?_)
  apply EvOps.keep (h' := []) (d' := false) (fun fr => fr.length = 47 ∧ slotAt fr 0 = some (strs ws))
  · intro call; simp [Try.f43]; exact rfl
  · exact ⟨by simp, by simp⟩
  rintro fr ⟨hl, h0⟩
  have hpick : ∀ fr : List AV, okC ws = false → fr.length = 47 → slotAt (fr.set 2 (.str [])) 2 = some (.str (if okC ws = true then encC ws else [])) := by
    intro fr hk hl
    rw [hk]; simp [hl]
  by_cases e0 : ws.length = 0
  · have hn : ws = [] := List.eq_nil_of_length_eq_zero e0
    subst hn
    refine Ev.seq (Ev.seq (Ev.region ?_))
    apply EvOps.run
    · intro call; simp [hl, h0, strs]; exact rfl
    refine Ev.cond true (by simp [hl]) (fun _ => ?_) (fun h => by simp at h)
    refine Ev.seq (Ev.region ?_)
    apply EvOps.run
    · intro call; simp [hl]; exact rfl
    exact Ev.ret ⟨.str [], by simp [Try.f43, hl], by simp [okC]⟩
  have e0' : ((ws.length : Int) == 0) = false := by rw [beq_eq_false_iff_ne]; omega
  have hne : ¬ ws = [] := by intro e; subst e; simp at e0
  by_cases e1 : 128 < ws.length
  · refine Ev.seq (Ev.seq (Ev.region ?_))
    apply EvOps.run
    · intro call; simp [hl, h0, strs, e0', hne, show (128 : Int) < ws.length by omega]; exact rfl
    refine Ev.cond true (by simp [hl]) (fun _ => ?_) (fun h => by simp at h)
    refine Ev.seq (Ev.region ?_)
    apply EvOps.run
    · intro call; simp [hl]; exact rfl
    exact Ev.ret ⟨.str [], by simp [Try.f43, hl], by simp [okC, show ¬ ws.length ≤ 128 by omega]⟩
  refine Ev.seq (Ev.seq (Ev.region ?_))
  apply EvOps.keep (h' := []) (d' := false) (fun fr => fr.length = 47 ∧ slotAt fr 0 = some (strs ws) ∧ slotAt fr 12 = some (.bool false))
  · intro call; simp [hl, h0, strs, e0', hne, show ¬ (128 : Int) < ws.length by omega]; exact rfl
  · exact ⟨by simp [hl], by simp [h0, strs], by simp [hl]⟩
  clear hl h0 fr
  rintro fr ⟨hl, h0, h12⟩
  refine Ev.cond false (by simp [h12]) (fun h => by simp at h) (fun _ => Ev.skip ?_)
  have hup : ∀ i, (∀ t (ht : t < ws.length), t < i → ws[t].length ≤ 4096) → (encUp ws i).length ≤ 700000 := fun i hi => by
    have h1 := encWs_len (ws.take i) fun w hw => by
      obtain ⟨t, ht, rfl⟩ := List.getElem_of_mem hw
      rw [List.length_take] at ht
      rw [List.getElem_take]
      exact hi t (by omega) (by omega)
    have h2 := head_len 42 ws.length (by omega)
    rw [List.length_take] at h1
    simp only [encUp, List.length_append, List.length_cons]
    omega
  have hp := refNum_ok ws.length (by omega)
  have hdl := digs_length 9 ws.length (by omega) (by omega)
  have hu0 : encUp ws 0 = 42 :: (digs ws.length ++ [13, 10]) := by simp [encUp, headS, encWs]
  have huN : encUp ws ws.length = encC ws := by simp [encUp, encC]
  refine Ev.seq (Ev.region (EvOps.take 2 ?_))
  apply EvOps.run
  · intro call; simp [hl, h0, strs]; exact rfl
  refine EvOps.call rfl (by simp) (by simp [hl] <;> exact rfl) (by simp <;> exact rfl) hp ?_
  generalize digs ws.length = D at hdl hu0
  apply EvOps.keep (h' := []) (d' := false) (fun fr => fr.length = 47 ∧ slotAt fr 0 = some (strs ws) ∧ slotAt fr 3 = some (.str (encUp ws 0)))
  · intro call; simp [hl, show 1 + D.length ≤ 140737488355328 by omega, show D.length + 1 ≤ 140737488355328 by omega, show D.length + 1 + 2 ≤ 140737488355328 by omega]; exact rfl
  · exact ⟨by simp [hl], by simp [h0, strs], by simp [hl, hu0]⟩
  clear hl h0 h12 fr
  rintro fr ⟨hl, h0, h3⟩
  refine Ev.seq (Ev.seq (Ev.region ?_))
  apply EvOps.run
  · intro call; simp; exact rfl
  refine Ev.block ?_
  refine Ev.loop (fun m st => ∃ (fr : List AV) (i : Nat), st = ⟨fr, [], false⟩ ∧ fr.length = 47 ∧ slotAt fr 0 = some (strs ws) ∧ slotAt fr 3 = some (.str (encUp ws i)) ∧ slotAt fr 4 = some (.int .i64 (i : Nat)) ∧ i ≤ ws.length ∧ (∀ t (ht : t < ws.length), t < i → ws[t].length ≤ 4096) ∧ m = ws.length - i) ?_ ws.length _ ?_
  · clear hl h0 h3 fr
    rintro m st ⟨fr, i, rfl, hl, h0, h3, h4, hi, hsm, rfl⟩
    refine Ev.seq (Ev.seq (Ev.region ?_))
    apply EvOps.run
    · intro call; simp [hl, h0, h4, strs]; exact rfl
    refine Ev.cond (decide (i < ws.length)) (by simp [hl]) (fun hc => Ev.skip ?_) (fun hc => Ev.exit ?_)
    · simp only [decide_eq_true_eq] at hc
      have hwl5 := hw ws[i] (List.getElem_mem hc)
      refine Ev.seq (Ev.block (Ev.seq (Ev.seq (Ev.region ?_))))
      apply EvOps.run
      · intro call; simp [hl, h0, h4, strs, hc]; exact rfl
      refine Ev.cond (decide (4096 < ws[i].length)) (by simp [hl]; omega) (fun hw4 => ?_) (fun hw4 => Ev.skip ?_)
      · simp only [decide_eq_true_eq] at hw4
        refine Ev.seq (Ev.region ?_)
        apply EvOps.run
        · intro call; simp [hl]; exact rfl
        refine Ev.ret ⟨.str [], by simp [Try.f43, hl], ?_⟩
        rw [if_neg]
        · rfl
        · intro hk
          have := (okC_iff hk).2.2 ws[i] (List.getElem_mem hc)
          omega
      simp only [decide_eq_false_iff_not] at hw4
      have hwl : ws[i].length ≤ 4096 := by omega
      have hpw := refNum_ok ws[i].length (by omega)
      have hdw := digs_length 9 ws[i].length (by omega) (by omega)
      have hue := hup i hsm
      have hus := encUp_succ ws i hc
      have hew : encW ws[i] = 36 :: (digs ws[i].length ++ [13, 10] ++ ws[i] ++ [13, 10]) := by simp [encW, headS]
      rw [hew] at hus
      refine Ev.region (EvOps.take 7 ?_)
      obtain ⟨E, hE⟩ : ∃ E, E = encUp ws i := ⟨_, rfl⟩
      rw [← hE] at hue hus h3
      apply EvOps.run
      · intro call; simp [hl, h0, h3, h4, strs, hc, show E.length + 1 ≤ 140737488355328 by omega]; exact rfl
      refine EvOps.call rfl (by simp) (by simp [hl] <;> exact rfl) (by simp <;> exact rfl) hpw ?_
      generalize digs ws[i].length = Dw at hdw hus
      apply EvOps.keep (h' := []) (d' := false) (fun fr => fr.length = 47 ∧ slotAt fr 0 = some (strs ws) ∧ slotAt fr 3 = some (.str (encUp ws (i + 1))) ∧ slotAt fr 4 = some (.int .i64 (i : Nat)))
      · intro call; simp [hl, h0, h4, strs, hc, show 1 + Dw.length ≤ 140737488355328 by omega, show E.length + 1 + Dw.length ≤ 140737488355328 by omega, show E.length + (Dw.length + 1) ≤ 140737488355328 by omega, show E.length + (Dw.length + 1) + 2 ≤ 140737488355328 by omega, show E.length + (Dw.length + 2 + 1) + ws[i].length ≤ 140737488355328 by omega, show E.length + (Dw.length + (ws[i].length + 2) + 1) + 2 ≤ 140737488355328 by omega]; exact rfl
      · exact ⟨by simp [hl], by simp [h0, strs], by simp [hl, hus], by simp [h4]⟩
      clear hl h0 h3 h4 fr
      rintro fr ⟨hl, h0, h3, h4⟩
      refine Ev.region ?_
      apply EvOps.run
      · intro call; simp [hl, h4, wrap_succ i (by omega)]; exact rfl
      refine ⟨ws.length - (i + 1), by omega, _, i + 1, rfl, by simp [hl], by simp [h0], by simp [h3], by simp [hl], by omega, fun t ht h => ?_, rfl⟩
      by_cases e : t = i
      · subst e; exact hwl
      · exact hsm t ht (by omega)
    · simp only [decide_eq_false_iff_not] at hc
      have hin : i = ws.length := by omega
      subst hin
      rw [huN] at h3
      refine Ev.seq (Ev.region ?_)
      apply EvOps.run
      · intro call; simp [hl, h3]; exact rfl
      refine Ev.ret ⟨.str (encC ws), by simp [Try.f43, hl], ?_⟩
      have hk : okC ws = true := by
        simp only [okC, Bool.and_eq_true, decide_eq_true_eq, List.all_eq_true]
        refine ⟨⟨by omega, by omega⟩, fun w hw => ?_⟩
        obtain ⟨t, ht, rfl⟩ := List.getElem_of_mem hw
        exact hsm t ht ht
      rw [hk]; simp
  · exact ⟨_, 0, rfl, by simp [hl], by simp [h0], by simp [h3], by simp [hl], by omega, fun t _ h => by omega, rfl⟩
theorem sameC_ok (a : List (List S)) (hb : a.length < 2 ^ 40) (hw : ∀ x ∈ a, x.length < 2 ^ 60) : Ret cfg 45 [.L (a.map strs), .L (a.map strs)] (.bool true) := by
  refine Ret.of_body rfl rfl Try.func45 rfl (by simp) (by simp) ?_
  refine Ev.seq (Ev.region ?_)
  apply EvOps.run
  · intro call; simp [Try.f45]; exact rfl
  refine Ev.seq (Ev.seq (Ev.region ?_))
  apply EvOps.run
  · intro call; simp; exact rfl
  refine Ev.cond false (by simp) (fun h => by simp at h) (fun _ => Ev.skip ?_)
  refine Ev.seq (Ev.seq (Ev.region ?_))
  apply EvOps.run
  · intro call; simp; exact rfl
  refine Ev.block ?_
  refine Ev.loop (fun m st => ∃ fr i, st = ⟨fr, [], false⟩ ∧ fr.length = 27 ∧ slotAt fr 0 = some (.L (a.map strs)) ∧ slotAt fr 1 = some (.L (a.map strs)) ∧ slotAt fr 5 = some (.int .i64 (i : Nat)) ∧ i ≤ a.length ∧ m = a.length - i) ?_ a.length _ ?_
  · rintro m st ⟨fr, i, rfl, hl, h0, h1, h5, hi, rfl⟩
    refine Ev.seq (Ev.seq (Ev.region ?_))
    apply EvOps.run
    · intro call; simp [hl, h0, h5]; exact rfl
    refine Ev.cond (decide (i < a.length)) (by simp [hl]) (fun hc => Ev.skip ?_) (fun hc => Ev.exit ?_)
    · simp only [decide_eq_true_eq] at hc
      have hwi := words_ok a[i] a[i] (hw _ (List.getElem_mem hc))
      rw [beq_self_eq_true] at hwi
      refine Ev.seq (Ev.block (Ev.seq (Ev.region (EvOps.take 8 ?_))))
      apply EvOps.run
      · intro call; simp [hl, h0, h1, h5, hc, strs]; exact rfl
      refine EvOps.call rfl (by simp) (by simp [hl] <;> exact rfl) (by simp [strs] <;> exact rfl) hwi ?_
      apply EvOps.run
      · intro call; simp [hl]; exact rfl
      refine Ev.cond false (by simp [hl]) (fun h => by simp at h) (fun _ => Ev.skip ?_)
      refine Ev.region ?_
      apply EvOps.run
      · intro call; simp [hl, h5, wrap_succ i (by omega)]; exact rfl
      exact ⟨a.length - (i + 1), by omega, _, i + 1, rfl, by simp [hl], by simp [h0], by simp [h1], by simp [hl], by omega, rfl⟩
    · simp only [decide_eq_false_iff_not] at hc
      refine Ev.seq (Ev.region ?_)
      apply EvOps.run
      · intro call; simp [hl]; exact rfl
      exact Ev.ret ⟨.bool true, by simp [hl], by simp⟩
  · exact ⟨_, 0, rfl, by simp, by simp, by simp, by simp, by omega, rfl⟩
end Go.Proofs.Ytnifldbmflkmpaa
