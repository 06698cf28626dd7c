/-
  For any two replies, RespApart returns true, and the arguments read afterwards as they did.
  Conditions: none beyond the given statement's own.
-/
import Derived.Test.YtnifldbmflkmpaaGc
import Derived.Test.YtnifldbmflkmpaaHf
import Derived.Test.YtnifldbmflkmpaaFl
namespace Go.Proofs.Ytnifldbmflkmpaa
open Go Ev Go.RowKit Go.ChangeShapes Go.WideShapes
set_option linter.unusedVariables false
set_option linter.unusedSimpArgs false
set_option maxRecDepth 100000
set_option maxHeartbeats 8000000 in
theorem respApart_ev (a b : R) (wa : wfR a) (wb : wfR b) : ∃ k h d, evalF cfg k 6 [aR a, aR b] [] = some (.bool true, h, d) := by
  refine law_of_body (by decide) Try.func6 rfl ?_
  obtain ⟨ka, sa, na, la, ea⟩ : ∃ k1 s1 n1 l1, a = R.mk k1 s1 n1 l1 := by cases a with | mk a b c e => exact ⟨a, b, c, e, rfl⟩
  obtain ⟨kb, sb, nb, lb, eb⟩ : ∃ k1 s1 n1 l1, b = R.mk k1 s1 n1 l1 := by cases b with | mk a b c e => exact ⟨a, b, c, e, rfl⟩
  have za := size_ok 9 a (by omega)
  have zb := size_ok 9 b (by omega)
  refine Ev.seq (Ev.region ?_)
  apply EvOps.keep (h' := [.cells [.int .i64 ka, .str sa, .int .i64 na, rs la], .cells [.int .i64 kb, .str sb, .int .i64 nb, rs lb]]) (d' := false) (fun fr => fr.length = 55 ∧ slotAt fr 2 = some (.ptr 0 0) ∧ slotAt fr 3 = some (.ptr 1 0))
  · intro call; simp [Try.f6, ea, eb, aR, rs]; exact rfl
  · exact ⟨by simp, by simp, by simp⟩
  rintro fr ⟨hl, h2, h3⟩
  have aw : Ret cfg 24 [] (.bool true) := awake4_ok
  -- when a guard says no
  have no : ∀ fr : List AV, fr.length = 55 → Ev cfg 0 ((Try.f6.body.get rfl) |> fun c => match c with | .seq _ (.seq (.seq _ (.cond _ c _)) _) => c | _ => .skip) ⟨fr, [.cells [.int .i64 ka, .str sa, .int .i64 na, rs la], .cells [.int .i64 kb, .str sb, .int .i64 nb, rs lb]], false⟩ (fun x st => (∀ i, x ≠ .exit i) ∧ x = .ret ∧ resultsA cfg.P Try.f6.results.toList st.fr st.h = some (.bool true)) := by
    intro fr hl
    refine Ev.seq (Ev.region ?_)
    refine EvOps.call rfl (by simp) (by simp <;> exact rfl) (by simp <;> exact rfl) aw ?_
    apply EvOps.run
    · intro call; simp [hl]; exact rfl
    exact Ev.ret ⟨by simp, by simp, by simp [Try.f6, hl]⟩
  have stop : ∀ fr : List AV, fr.length = 55 → Ev cfg 0 ((Try.f6.body.get rfl) |> fun c => match c with | .seq _ (.seq (.seq _ (.cond _ c _)) _) => c | _ => .skip) ⟨fr, [.cells [.int .i64 ka, .str sa, .int .i64 na, rs la], .cells [.int .i64 kb, .str sb, .int .i64 nb, rs lb]], false⟩ (onNormal (fun s => False) (fun x st => (∀ i, x ≠ .exit i) ∧ resultsA cfg.P Try.f6.results.toList st.fr st.h = some (.bool true))) := by
    intro fr hl
    refine (no fr hl).mono ?_
    rintro x st ⟨h1, rfl, h3⟩
    exact ⟨h1, h3⟩
  refine Ev.seq (Ev.seq (Ev.region ?_))
  refine EvOps.call rfl (by simp) (by simp <;> exact rfl) (by simp <;> exact rfl) aw ?_
  refine EvOps.take 3 ?_
  apply EvOps.run
  · intro call; simp [hl, h2, rs]; exact rfl
  refine EvOps.call rfl (by simp [hl]) (by simp [hl] <;> exact rfl) (by simp [ea, aR] <;> exact rfl) za ?_
  by_cases ga : 300 < sizeN 9 a
  · apply EvOps.keep (h' := [.cells [.int .i64 ka, .str sa, .int .i64 na, rs la], .cells [.int .i64 kb, .str sb, .int .i64 nb, rs lb]]) (d' := false) (fun fr => fr.length = 55 ∧ slotAt fr 29 = some (.bool true))
    · intro call; simp [hl, show (300 : Int) < sizeN 9 a by omega, rs]; exact rfl
    · exact ⟨by simp [hl], by simp [hl]⟩
    rintro fr ⟨hl, h29⟩
    refine Ev.cond true (by simp [h29]) (fun _ => ?_) (fun h => by simp at h)
    refine (stop fr hl).mono ?_
    intro x s hs; cases x <;> simp only [onNormal] at hs ⊢ <;> first | exact hs | exact hs.elim
  refine EvOps.take 4 ?_
  apply EvOps.run
  · intro call; simp [hl, h3, show ¬ (300 : Int) < sizeN 9 a by omega, rs]; exact rfl
  refine EvOps.call rfl (by simp [hl]) (by simp [hl] <;> exact rfl) (by simp [eb, aR] <;> exact rfl) zb ?_
  by_cases gb : 300 < sizeN 9 b
  · apply EvOps.keep (h' := [.cells [.int .i64 ka, .str sa, .int .i64 na, rs la], .cells [.int .i64 kb, .str sb, .int .i64 nb, rs lb]]) (d' := false) (fun fr => fr.length = 55 ∧ slotAt fr 29 = some (.bool true))
    · intro call; simp [hl, show (300 : Int) < sizeN 9 b by omega, rs]; exact rfl
    · exact ⟨by simp [hl], by simp [hl]⟩
    rintro fr ⟨hl, h29⟩
    refine Ev.cond true (by simp [h29]) (fun _ => ?_) (fun h => by simp at h)
    refine (stop fr hl).mono ?_
    intro x s hs; cases x <;> simp only [onNormal] at hs ⊢ <;> first | exact hs | exact hs.elim
  obtain ⟨sma, lena⟩ := sm_of 9 a wa (by omega)
  obtain ⟨smb, lenb⟩ := sm_of 9 b wb (by omega)
  have ra := refRight_ok 4 a (by omega) sma
  have rb := refRight_ok 4 b (by omega) smb
  refine EvOps.take 4 ?_
  apply EvOps.run
  · intro call; simp [hl, h2, show ¬ (300 : Int) < sizeN 9 b by omega, rs]; exact rfl
  refine EvOps.call rfl (by simp [hl]) (by simp [hl] <;> exact rfl) (by simp [ea, aR] <;> exact rfl) ra ?_
  cases qa : rightR 4 a with
  | false =>
    apply EvOps.keep (h' := [.cells [.int .i64 ka, .str sa, .int .i64 na, rs la], .cells [.int .i64 kb, .str sb, .int .i64 nb, rs lb]]) (d' := false) (fun fr => fr.length = 55 ∧ slotAt fr 29 = some (.bool true))
    · intro call; simp [hl, rs]; exact rfl
    · exact ⟨by simp [hl], by simp [hl]⟩
    rintro fr ⟨hl, h29⟩
    refine Ev.cond true (by simp [h29]) (fun _ => ?_) (fun h => by simp at h)
    refine (stop fr hl).mono ?_
    intro x s hs; cases x <;> simp only [onNormal] at hs ⊢ <;> first | exact hs | exact hs.elim
  | true =>
  refine EvOps.take 4 ?_
  apply EvOps.run
  · intro call; simp [hl, h3, rs]; exact rfl
  refine EvOps.call rfl (by simp [hl]) (by simp [hl] <;> exact rfl) (by simp [eb, aR] <;> exact rfl) rb ?_
  cases qb : rightR 4 b with
  | false =>
    apply EvOps.keep (h' := [.cells [.int .i64 ka, .str sa, .int .i64 na, rs la], .cells [.int .i64 kb, .str sb, .int .i64 nb, rs lb]]) (d' := false) (fun fr => fr.length = 55 ∧ slotAt fr 29 = some (.bool true))
    · intro call; simp [hl, rs]; exact rfl
    · exact ⟨by simp [hl], by simp [hl]⟩
    rintro fr ⟨hl, h29⟩
    refine Ev.cond true (by simp [h29]) (fun _ => ?_) (fun h => by simp at h)
    refine (stop fr hl).mono ?_
    intro x s hs; cases x <;> simp only [onNormal] at hs ⊢ <;> first | exact hs | exact hs.elim
  | true =>
  apply EvOps.keep (h' := [.cells [.int .i64 ka, .str sa, .int .i64 na, rs la], .cells [.int .i64 kb, .str sb, .int .i64 nb, rs lb]]) (d' := false) (fun fr => fr.length = 55 ∧ slotAt fr 2 = some (.ptr 0 0) ∧ slotAt fr 3 = some (.ptr 1 0) ∧ slotAt fr 29 = some (.bool false))
  · intro call; simp [hl, rs]; exact rfl
  · exact ⟨by simp [hl], by simp [h2], by simp [h3], by simp [hl]⟩
  clear hl h2 h3 fr no stop
  rintro fr ⟨hl, h2, h3, h29⟩
  refine Ev.cond false (by simp [h29]) (fun h => by simp at h) (fun _ => Ev.skip ?_)
  have ea1 : encAll [a] = encR a := by simp [encAll, qa]
  have eb1 : encAll [b] = encR b := by simp [encAll, qb]
  have va := writeAll_ok [a] (by simp) (by simpa using sma) (by rw [ea1]; omega)
  have vb := writeAll_ok [b] (by simp) (by simpa using smb) (by rw [eb1]; omega)
  rw [ea1] at va
  rw [eb1] at vb
  refine Ev.seq (Ev.region (EvOps.take 2 ?_))
  apply EvOps.run
  · intro call; simp [hl, h2, rs, buildSliceA]; exact rfl
  refine EvOps.call rfl (by simp [hl]) (by simp [hl] <;> exact rfl) (by simp [ea, aR, aRs, rs] <;> exact rfl) va ?_
  refine EvOps.take 3 ?_
  apply EvOps.run
  · intro call; simp [hl, h3, rs, buildSliceA, bytesOf_ofBytes]; exact rfl
  refine EvOps.call rfl (by simp [hl]) (by simp [hl] <;> exact rfl) (by simp [eb, aR, aRs, rs] <;> exact rfl) vb ?_
  apply EvOps.keep (h' := [.cells [.int .i64 ka, .str sa, .int .i64 na, rs la], .cells [.int .i64 kb, .str sb, .int .i64 nb, rs lb]]) (d' := false) (fun fr => fr.length = 55 ∧ slotAt fr 2 = some (.ptr 0 0) ∧ slotAt fr 3 = some (.ptr 1 0) ∧ slotAt fr 5 = some (.str (encR a)) ∧ slotAt fr 6 = some (.str (encR b)))
  · intro call; simp [hl, bytesOf_ofBytes, rs]; exact rfl
  · exact ⟨by simp [hl], by simp [h2], by simp [h3], by simp [hl], by simp [hl]⟩
  clear hl h2 h3 h29 fr
  rintro fr ⟨hl, h2, h3, h5, h6⟩
  obtain ⟨n, hn⟩ : ∃ n : Nat, n = if (encR b).length < (encR a).length then (encR b).length else (encR a).length := ⟨_, rfl⟩
  refine Ev.seq (Ev.region ?_)
  apply EvOps.keep (h' := [.cells [.int .i64 ka, .str sa, .int .i64 na, rs la], .cells [.int .i64 kb, .str sb, .int .i64 nb, rs lb]]) (d' := false) (fun fr => fr.length = 55 ∧ slotAt fr 2 = some (.ptr 0 0) ∧ slotAt fr 3 = some (.ptr 1 0) ∧ slotAt fr 5 = some (.str (encR a)) ∧ slotAt fr 6 = some (.str (encR b)) ∧ slotAt fr 7 = some (.int .i64 (n : Nat)))
  · intro call; simp [hl, h5, h6, minsA, minA]; exact rfl
  · refine ⟨by simp [hl], by simp [h2], by simp [h3], by simp [h5], by simp [h6], ?_⟩
    simp [hl, hn]
    split <;> rfl
  clear hl h2 h3 h5 h6 fr
  rintro fr ⟨hl, h2, h3, h5, h6, h7⟩
  have hna : n ≤ (encR a).length := by rw [hn]; split <;> omega
  have hnb : n ≤ (encR b).length := by rw [hn]; split <;> omega
  have hfin := enc_apart a b 4 4 qa qb n (by rw [hn]; split <;> omega) hna hnb
  have hsame := same_ok a b (okR_sm a sma)
  refine Ev.seq (Ev.region (EvOps.take 9 ?_))
  apply EvOps.run
  · intro call; simp [hl, h2, h3, h5, h6, h7, rs, sliceA, hna, hnb]; exact rfl
  refine EvOps.call rfl (by simp [hl]) (by simp [hl] <;> exact rfl) (by simp [ea, eb, aR] <;> exact ⟨rfl, rfl⟩) hsame ?_
  apply EvOps.run
  · intro call; simp [hl, hfin]; exact rfl
  exact Ev.ret ⟨by simp, by simp [Try.f6, hl]⟩

theorem reply_of : ∀ {n : Nat} {y : AV}, isOf Try.prog (has Try.prog n) 40 y → ∃ r : R, y = aR r ∧ wfR r
  | 0, y, h => by rcases h with ⟨_, cs, _, h⟩ | ⟨_, h⟩ <;> exact h.elim
  | n + 1, y, h => by
    rcases h with ⟨_, cs, rfl, h⟩ | ⟨h, _⟩
    · simp only [has, Try.underlying40] at h
      simp only [Array.toList, List.map_cons, List.map_nil, hasParts] at h
      obtain ⟨a, _, rfl, h1, b, _, rfl, h2, c, _, rfl, h3, e, _, rfl, h4, rfl⟩ := h
      cases n with
      | zero => exact h1.elim
      | succ n =>
        simp only [has, Try.underlying3] at h1 h3
        simp only [has, Try.underlying9] at h2
        simp only [has, Try.underlying38] at h4
        obtain ⟨k, rfl, hk⟩ := h1
        obtain ⟨s, rfl, hs⟩ := h2
        obtain ⟨m, rfl, hm⟩ := h3
        obtain ⟨ys, rfl, hl, hy⟩ := h4
        have key : ∀ l : List AV, (∀ y ∈ l, isOf Try.prog (has Try.prog n) 40 y) → ∃ l' : List R, l = aRs l' ∧ wfRs l' := by
          intro l
          induction l with
          | nil => intro _; exact ⟨[], by simp only [aRs], by simp only [wfRs]⟩
          | cons a l ih =>
            intro h
            obtain ⟨l', e1, e2⟩ := ih fun y hy => h y (List.mem_cons_of_mem _ hy)
            obtain ⟨r, e3, e4⟩ := reply_of (h a (by simp))
            exact ⟨r :: l', by simp only [aRs, e1, e3], by simp only [wfRs]; exact ⟨e4, e2⟩⟩
        obtain ⟨l', rfl, hw⟩ := key ys hy
        refine ⟨.mk k s m l', by simp only [aR, List.cons_append, List.nil_append], ?_⟩
        simp only [wfR]
        refine ⟨?_, hw⟩
        simp [Lit.wf, IntKind.min, IntKind.max, IntKind.bits, IntKind.signed] at hm
        omega
    · simp at h

theorem respApart_all (xs : List AV) (h : hasAll Try.prog Try.f6.params.toList xs) : ∃ k h d, evalF cfg k 6 xs [] = some (.bool true, h, d) := by
  have hp : Try.f6.params.toList = [40, 40] := by kernel_rfl
  rw [hp] at h
  match xs, h with
  | [x, y], h =>
    simp only [hasAll, and_true] at h
    obtain ⟨⟨n, h1⟩, ⟨n', h2⟩⟩ := h
    obtain ⟨a, rfl, wa⟩ := reply_of h1
    obtain ⟨b, rfl, wb⟩ := reply_of h2
    exact respApart_ev a b wa wb

theorem respApart_lifted (os : Os) (started : os.Started) (H : Type) (enc : TypeId × Value → H) :
    ReturnsInHanded {} Try.checked os 6 .any (Rows.respApartSpec.pre6 enc Try.prog Try.f6 Rows.respApartRow.domain false) (Rows.respApartSpec.post enc Try.prog Try.f6 false true false false) := by
  refine returnsInHanded_of_change (C := Try.checked) own started (by kernel_rfl) Try.func6
    (ChangeSpec.witness6 (enc := enc) (C := Try.checked) false ⟨#[], #[.agg #[.int .i64 0, .string .empty, .int .i64 0, .slice none 0 0], .agg #[.int .i64 0, .string .empty, .int .i64 0, .slice none 0 0]], []⟩ 8 (by kernel_rfl) (by kernel_rfl) (by kernel_rfl) (by kernel_rfl)) ?_
  intro W base args ds gs before hval hW hcnd _
  exact law_contract (C := cfg) cfg_ok bodies mixed laid (s := Rows.respApartSpec) rfl (by kernel_rfl) Try.underlying4 tys_ok (by kernel_rfl)
    (fun ds hd => by
      have hp : Try.f6.params.toList.length = 2 := by kernel_rfl
      rw [hp] at hd
      match ds, hd with
      | [d1, d2], _ => exact ⟨rfl, rfl, rfl⟩)
    respApart_all W base args ds gs before hval hW

theorem respApart_holds : Rows.RespApartSaid :=
  OpenClaim.holds_of_wide 6 Try.f6 rfl rfl rfl rfl rfl rfl rfl ⟨rfl, rfl, rfl, rfl, rfl⟩ rfl rfl rfl rfl rfl (by kernel_rfl) Try.func6 (by kernel_rfl)
    (of_decide_eq_true (by kernel_rfl)) (by unfold Func.isWrapper; first | (rw [if_pos (by decide +kernel)]; kernel_rfl) | (rw [if_neg (by decide +kernel)]; exact ⟨rfl, rfl⟩))
    (fun os started H enc _ => respApart_lifted os started H enc)
#print axioms respApart_holds
end Go.Proofs.Ytnifldbmflkmpaa
