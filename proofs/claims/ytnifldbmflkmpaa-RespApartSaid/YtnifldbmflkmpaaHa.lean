/-
  The encodings of right replies: none is the beginning of another's.
-/
import Derived.Test.YtnifldbmflkmpaaGh
import Derived.Test.YtnifldbmflkmpaaGe
namespace Go.Proofs.Ytnifldbmflkmpaa
open Go Ev
set_option linter.unusedVariables false
set_option linter.unusedSimpArgs false
def crlf : S := [13, 10]
mutual
/-- A reply, as it is written. -/
def encR : R → S
  | .mk k s n l =>
    if k = 0 then 43 :: (s ++ crlf)
    else if k = 1 then 45 :: (s ++ crlf)
    else if k = 2 then 58 :: (decS n ++ crlf)
    else if k = 3 then 36 :: (decS (s.length : Int) ++ crlf ++ s ++ crlf)
    else if k = 5 then 42 :: (decS (l.length : Int) ++ crlf ++ encRs l)
    else [36, 45, 49, 13, 10]
def encRs : List R → S
  | [] => []
  | r :: l => encR r ++ encRs l
end
/-- What digits tell. -/
def valD (s : S) : Nat := s.foldl (fun a b => a * 10 + (b.toNat - 48)) 0
theorem valD_digs : ∀ n : Nat, valD (digs n) = n := by
  intro n
  induction n using Nat.strongRecOn with
  | ind n ih =>
    rw [digs]
    split
    · rename_i h
      simp only [valD, List.foldl_cons, List.foldl_nil, UInt8.toNat_ofNat']
      omega
    · rename_i h
      have := ih (n / 10) (by omega)
      simp only [valD] at this
      simp only [valD, List.foldl_append, this, List.foldl_cons, List.foldl_nil, UInt8.toNat_ofNat']
      omega
theorem digs_inj {n m : Nat} (h : digs n = digs m) : n = m := by rw [← valD_digs n, ← valD_digs m, h]
theorem digs_in : ∀ (n : Nat) (b : UInt8), b ∈ digs n → 48 ≤ b.toNat ∧ b.toNat ≤ 57 := by
  intro n
  induction n using Nat.strongRecOn with
  | ind n ih =>
    intro b hb
    rw [digs] at hb
    split at hb
    · rename_i h
      simp only [List.mem_singleton] at hb
      subst hb
      simp only [UInt8.toNat_ofNat']
      omega
    · rename_i h
      simp only [List.mem_append, List.mem_singleton] at hb
      rcases hb with hb | hb
      · exact ih (n / 10) (by omega) b hb
      · subst hb
        simp only [UInt8.toNat_ofNat']
        omega
theorem digs_head (n : Nat) : ∃ b l, digs n = b :: l ∧ 48 ≤ b.toNat ∧ b.toNat ≤ 57 := by
  have := digs_pos n
  match h : digs n with
  | [] => rw [h] at this; simp at this
  | b :: l => exact ⟨b, l, rfl, digs_in n b (by rw [h]; simp)⟩
theorem decS_inj {n m : Int} (h : decS n = decS m) : n = m := by
  unfold decS at h
  split at h <;> split at h
  · rename_i h1 h2
    have := digs_inj (List.cons.inj h).2
    omega
  · obtain ⟨b, l, e, h3, _⟩ := digs_head m.natAbs
    rw [e] at h
    have := (List.cons.inj h).1
    subst this
    simp at h3
  · obtain ⟨b, l, e, h3, _⟩ := digs_head n.natAbs
    rw [e] at h
    have := (List.cons.inj h).1
    subst this
    simp at h3
  · have := digs_inj h
    omega
theorem lineS_iff (s : S) : lineS s = true ↔ ∀ b ∈ s, b ≠ 13 ∧ b ≠ 10 := by
  simp [lineS]
theorem lineS_decS (n : Int) : lineS (decS n) = true := by
  rw [lineS_iff]
  intro b hb
  have key : ∀ m : Nat, b ∈ digs m → b ≠ 13 ∧ b ≠ 10 := by
    intro m hm
    have := digs_in m b hm
    constructor <;> (intro e; subst e; simp at this)
  unfold decS at hb
  split at hb
  · simp only [List.mem_cons] at hb
    rcases hb with rfl | hb
    · decide
    · exact key _ hb
  · exact key _ hb
theorem line_cut : ∀ {s s' x y : S}, lineS s = true → lineS s' = true → s ++ (13 :: x) = s' ++ (13 :: y) → s = s' ∧ x = y
  | [], [], x, y, _, _, h => by simpa using h
  | [], b :: s', x, y, _, h2, h => by
    rw [lineS_iff] at h2
    simp only [List.nil_append, List.cons_append, List.cons.injEq] at h
    exact ((h2 b (by simp)).1 h.1.symm).elim
  | b :: s, [], x, y, h1, _, h => by
    rw [lineS_iff] at h1
    simp only [List.nil_append, List.cons_append, List.cons.injEq] at h
    exact ((h1 b (by simp)).1 h.1).elim
  | b :: s, b' :: s', x, y, h1, h2, h => by
    simp only [List.cons_append, List.cons.injEq] at h
    have h1' : lineS s = true := by simp only [lineS, List.all_cons, Bool.and_eq_true] at h1 ⊢; exact h1.2
    have h2' : lineS s' = true := by simp only [lineS, List.all_cons, Bool.and_eq_true] at h2 ⊢; exact h2.2
    obtain ⟨e1, e2⟩ := line_cut h1' h2' h.2
    exact ⟨by rw [h.1, e1], e2⟩
theorem crlf_cut {s s' x y : S} (h1 : lineS s = true) (h2 : lineS s' = true) (h : s ++ crlf ++ x = s' ++ crlf ++ y) : s = s' ∧ x = y := by
  simp only [crlf, List.append_assoc, List.cons_append, List.nil_append] at h
  obtain ⟨e1, e2⟩ := line_cut h1 h2 h
  exact ⟨e1, by simpa using e2⟩
theorem dec_not45 (n : Nat) (x y : S) : decS (n : Int) ++ x ≠ 45 :: y := by
  intro h
  rw [decS, if_neg (by omega)] at h
  obtain ⟨b, l, e, h3, _⟩ := digs_head (n : Int).natAbs
  rw [e] at h
  have := (List.cons.inj h).1
  subst this
  simp at h3
/-- What a right reply is. -/
theorem right_kinds {d : Nat} {k : Int} {s : S} {n : Int} {l : List R} (h : rightR d (.mk k s n l) = true) :
    (k = 0 ∧ n = 0 ∧ l = [] ∧ lineS s = true) ∨ (k = 1 ∧ n = 0 ∧ l = [] ∧ lineS s = true) ∨ (k = 2 ∧ s = [] ∧ l = []) ∨ (k = 3 ∧ n = 0 ∧ l = []) ∨ (k = 4 ∧ s = [] ∧ n = 0 ∧ l = []) ∨ (k = 5 ∧ s = [] ∧ n = 0 ∧ d ≠ 0 ∧ rightRs (d - 1) l = true) := by
  simp only [rightR, badHead, Bool.and_eq_true, Bool.not_eq_true', Bool.or_eq_false_iff, decide_eq_false_iff_not, Bool.and_eq_false_iff, Bool.or_eq_true, decide_eq_true_eq, bne_iff_ne, ne_eq, bne_eq_false_iff_eq] at h
  obtain ⟨⟨⟨⟨⟨⟨⟨h1, h2⟩, h3⟩, h4⟩, h5⟩, h6⟩, h7⟩, h8⟩ := h
  have hl : k ≠ 5 → l = [] := by
    intro hk
    rcases h3 with h3 | h3
    · exact (hk h3).elim
    · cases l with
      | nil => rfl
      | cons _ _ => simp at h3
  have hk : k = 0 ∨ k = 1 ∨ k = 2 ∨ k = 3 ∨ k = 4 ∨ k = 5 := by omega
  rcases hk with rfl | rfl | rfl | rfl | rfl | rfl <;> simp_all
mutual
theorem enc_cut : ∀ (a b : R) (x y : S) (d d' : Nat), rightR d a = true → rightR d' b = true → encR a ++ x = encR b ++ y → a = b ∧ x = y
  | .mk k s n l, .mk k' s' n' l', x, y, d, d', ha, hb, h => by
    have qa := right_kinds ha
    have qb := right_kinds hb
    rcases qa with ⟨rfl, rfl, rfl, h1⟩ | ⟨rfl, rfl, rfl, h1⟩ | ⟨rfl, rfl, rfl⟩ | ⟨rfl, rfl, rfl⟩ | ⟨rfl, rfl, rfl, rfl⟩ | ⟨rfl, rfl, rfl, h1, h2⟩ <;>
    rcases qb with ⟨rfl, rfl, rfl, g1⟩ | ⟨rfl, rfl, rfl, g1⟩ | ⟨rfl, rfl, rfl⟩ | ⟨rfl, rfl, rfl⟩ | ⟨rfl, rfl, rfl, rfl⟩ | ⟨rfl, rfl, rfl, g1, g2⟩ <;>
    simp [encR, -List.append_assoc] at h
    · obtain ⟨e1, e2⟩ := crlf_cut h1 g1 h; subst e1; subst e2; exact ⟨rfl, rfl⟩
    · obtain ⟨e1, e2⟩ := crlf_cut h1 g1 h; subst e1; subst e2; exact ⟨rfl, rfl⟩
    · obtain ⟨e1, e2⟩ := crlf_cut (lineS_decS _) (lineS_decS _) h; have := decS_inj e1; subst this; subst e2; exact ⟨rfl, rfl⟩
    · rw [List.append_assoc (decS _ ++ crlf), List.append_assoc (decS _ ++ crlf), List.append_assoc (decS _ ++ crlf), List.append_assoc (decS _ ++ crlf)] at h
      obtain ⟨e1, e2⟩ := crlf_cut (lineS_decS _) (lineS_decS _) h
      have e3 := decS_inj e1
      have e4 : s.length = s'.length := by omega
      rw [List.append_assoc, List.append_assoc] at e2
      obtain ⟨e5, e6⟩ := List.append_inj e2 e4
      subst e5
      have := List.append_cancel_left e6
      subst this
      exact ⟨rfl, rfl⟩
    · exfalso
      simp only [List.append_assoc] at h
      exact dec_not45 _ _ _ h
    · exfalso
      simp only [List.append_assoc] at h
      exact dec_not45 _ _ _ h.symm
    · subst h; exact ⟨rfl, rfl⟩
    · rw [List.append_assoc (decS _ ++ crlf), List.append_assoc (decS _ ++ crlf)] at h
      obtain ⟨e1, e2⟩ := crlf_cut (lineS_decS _) (lineS_decS _) h
      have e3 := decS_inj e1
      obtain ⟨e4, e5⟩ := encs_cut l l' x y (d - 1) (d' - 1) h2 g2 (by omega) e2
      subst e4; subst e5
      exact ⟨rfl, rfl⟩
theorem encs_cut : ∀ (l l' : List R) (x y : S) (d d' : Nat), rightRs d l = true → rightRs d' l' = true → l.length = l'.length → encRs l ++ x = encRs l' ++ y → l = l' ∧ x = y
  | [], [], x, y, _, _, _, _, _, h => by simpa [encRs] using h
  | [], _ :: _, _, _, _, _, _, _, h, _ => by simp at h
  | _ :: _, [], _, _, _, _, _, _, h, _ => by simp at h
  | a :: l, b :: l', x, y, d, d', h1, h2, h3, h => by
    simp only [rightRs, Bool.and_eq_true] at h1 h2
    simp only [encRs, List.append_assoc] at h
    obtain ⟨e1, e2⟩ := enc_cut a b _ _ d d' h1.1 h2.1 h
    obtain ⟨e3, e4⟩ := encs_cut l l' x y d d' h1.2 h2.2 (by simpa using h3) e2
    exact ⟨by rw [e1, e3], e4⟩
end
mutual
theorem sameR_own : ∀ a : R, sameR a a = true
  | .mk k s n l => by simp only [sameR, beq_self_eq_true, samesR_own l, Bool.and_self]
theorem samesR_own : ∀ l : List R, sameRs l l = true
  | [] => by simp only [sameRs]
  | a :: l => by simp only [sameRs, sameR_own a, samesR_own l, Bool.and_self]
end
mutual
theorem sameR_is : ∀ a b : R, sameR a b = true → a = b
  | .mk k s n l, .mk k' s' n' l', h => by
    simp only [sameR, Bool.and_eq_true, beq_iff_eq] at h
    obtain ⟨⟨⟨h1, h2⟩, h3⟩, h4⟩ := h
    rw [h1, h2, h3, samesR_is l l' h4]
theorem samesR_is : ∀ l l' : List R, sameRs l l' = true → l = l'
  | [], [], _ => rfl
  | [], _ :: _, h => by simp [sameRs] at h
  | _ :: _, [], h => by simp [sameRs] at h
  | a :: l, b :: l', h => by
    simp only [sameRs, Bool.and_eq_true] at h
    rw [sameR_is a b h.1, samesR_is l l' h.2]
end
/-- The law. -/
theorem enc_apart (a b : R) (d d' : Nat) (ha : rightR d a = true) (hb : rightR d' b = true) (n : Nat) (hn : n = (encR a).length ∨ n = (encR b).length) (h1 : n ≤ (encR a).length) (h2 : n ≤ (encR b).length) : ((encR a).take n == (encR b).take n) = sameR a b := by
  cases hs : sameR a b with
  | true => have := sameR_is a b hs; subst this; simp
  | false =>
    rw [beq_eq_false_iff_ne]
    intro h
    have key : ∃ x y, encR a ++ x = encR b ++ y := by
      rcases hn with hn | hn
      · rw [hn, List.take_length] at h
        refine ⟨(encR b).drop (encR a).length, [], ?_⟩
        have e := List.take_append_drop (encR a).length (encR b)
        rw [← h] at e
        rw [List.append_nil]
        exact e
      · rw [hn, List.take_length] at h
        refine ⟨[], (encR a).drop (encR b).length, ?_⟩
        have e := List.take_append_drop (encR b).length (encR a)
        rw [h] at e
        rw [List.append_nil]
        exact e.symm
    obtain ⟨x, y, e⟩ := key
    have := (enc_cut a b x y d d' ha hb e).1
    subst this
    rw [sameR_own] at hs
    cases hs
end Go.Proofs.Ytnifldbmflkmpaa
