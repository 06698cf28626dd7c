/-
  Patterns without classes: their parts, and which texts they fit.
-/
import Derived.Test.YtnifldbmflkmpaaCf
namespace Go.Proofs.Ytnifldbmflkmpaa
open Go Ev
set_option linter.unusedVariables false
set_option linter.unusedSimpArgs false
/-- A part of a pattern. -/
inductive Pt where
  | any
  | q
  | lit (c : UInt8) (n : Nat)
def Pt.fits : Pt → UInt8 → Bool
  | .any, _ => false
  | .q, _ => true
  | .lit c _, b => c == b
def Pt.isAny : Pt → Bool
  | .any => true
  | _ => false
def Pt.len : Pt → Nat
  | .lit _ n => n
  | _ => 1
/-- A pattern's first part, where it is no class. -/
def headP : S → Option Pt
  | [] => none
  | c :: s =>
    if c = 42 then some .any
    else if c = 63 then some .q
    else if c = 91 then none
    else if c = 92 then (match s with
      | [] => some (.lit 92 1)
      | d :: _ => some (.lit d 2))
    else some (.lit c 1)
/-- A pattern's parts. -/
inductive Parses : S → List Pt → Prop where
  | nil : Parses [] []
  | cons {s : S} {p : Pt} {l : List Pt} : headP s = some p → Parses (s.drop p.len) l → Parses s (p :: l)
def lits (s : S) : List Pt := s.map fun b => .lit b (if isSign b then 2 else 1)
theorem parses_quote (r : S) (l : List Pt) (h : Parses r l) : ∀ p : S, Parses (quoteS p ++ r) (lits p ++ l)
  | [] => by simpa [quoteS, lits] using h
  | b :: p => by
    have ih := parses_quote r l h p
    have e : quoteS (b :: p) = (if isSign b then [92, b] else [b]) ++ quoteS p := by simp [quoteS]
    rw [e, show lits (b :: p) = .lit b (if isSign b then 2 else 1) :: lits p from rfl]
    cases hb : isSign b with
    | true =>
      refine Parses.cons (p := .lit b 2) ?_ ?_
      · simp [headP]
      · simpa [Pt.len] using ih
    | false =>
      refine Parses.cons (p := .lit b 1) ?_ ?_
      · simp only [isSign, Bool.or_eq_false_iff, beq_eq_false_iff_ne, ne_eq] at hb
        simp [headP, hb.1.1.1, hb.1.1.2, hb.1.2, hb.2]
      · simpa [Pt.len] using ih
def plainL (s : S) : List Pt := s.map fun b => .lit b 1
theorem parses_plain : ∀ s : S, s.all (fun b => !isSign b) = true → Parses s (plainL s)
  | [], _ => .nil
  | b :: s, h => by
    simp only [List.all_cons, Bool.and_eq_true, Bool.not_eq_true'] at h
    refine Parses.cons (p := .lit b 1) ?_ (by simpa [Pt.len, plainL] using parses_plain s h.2)
    have hb := h.1
    simp only [isSign, Bool.or_eq_false_iff, beq_eq_false_iff_ne, ne_eq] at hb
    simp [headP, hb.1.1.1, hb.1.1.2, hb.1.2, hb.2]
theorem quote_plain : ∀ s : S, s.all (fun b => !isSign b) = true → quoteS s = s
  | [], _ => rfl
  | b :: s, h => by
    simp only [List.all_cons, Bool.and_eq_true, Bool.not_eq_true'] at h
    have e : quoteS (b :: s) = (if isSign b then [92, b] else [b]) ++ quoteS s := by simp [quoteS]
    rw [e, h.1, quote_plain s h.2]
    rfl
theorem lits_length (s : S) : (lits s).length = s.length := by simp [lits]

/-- Which texts the parts fit. -/
def Fit : List Pt → S → Prop
  | [], s => s = []
  | .any :: l, s => ∃ k, k ≤ s.length ∧ Fit l (s.drop k)
  | p :: l, s => ∃ b s', s = b :: s' ∧ p.fits b = true ∧ Fit l s'
theorem fit_any (l : List Pt) (s : S) : Fit (.any :: l) s ↔ ∃ k, k ≤ s.length ∧ Fit l (s.drop k) := by simp only [Fit]
theorem fit_one (p : Pt) (hp : p.isAny = false) (l : List Pt) (s : S) : Fit (p :: l) s ↔ ∃ b s', s = b :: s' ∧ p.fits b = true ∧ Fit l s' := by
  cases p with
  | any => cases hp
  | q => simp only [Fit]
  | lit c n => simp only [Fit]
theorem fits_not_any {p : Pt} {b : UInt8} (h : p.fits b = true) : p.isAny = false := by cases p <;> simp_all [Pt.fits, Pt.isAny]
/-- Parts that fit an octet each, one behind the other. -/
def Seg : List Pt → S → Prop
  | [], _ => True
  | _ :: _, [] => False
  | p :: m, b :: t => p.fits b = true ∧ Seg m t
theorem seg_len : ∀ {m : List Pt} {t : S}, Seg m t → m.length ≤ t.length
  | [], _, _ => by simp
  | _ :: _, [], h => by simp [Seg] at h
  | p :: m, b :: t, h => by simp only [Seg] at h; have := seg_len h.2; simp; omega
theorem seg_noAny : ∀ {m : List Pt} {t : S}, Seg m t → ∀ p ∈ m, p.isAny = false
  | [], _, _, p, hp => by simp at hp
  | _ :: _, [], h, _, _ => by simp [Seg] at h
  | p :: m, b :: t, h, p', hp => by
    simp only [Seg] at h
    simp only [List.mem_cons] at hp
    rcases hp with rfl | hp
    · exact fits_not_any h.1
    · exact seg_noAny h.2 p' hp
theorem fit_seg : ∀ (m r : List Pt) (t : S), (∀ p ∈ m, p.isAny = false) → (Fit (m ++ r) t ↔ Seg m t ∧ Fit r (t.drop m.length))
  | [], r, t, _ => by simp [Seg]
  | p :: m, r, t, h => by
    have ih := fun t => fit_seg m r t fun p hp => h p (List.mem_cons_of_mem _ hp)
    rw [List.cons_append, fit_one p (h p (by simp))]
    cases t with
    | nil => simp [Seg]
    | cons b t =>
      simp only [Seg, List.cons.injEq, List.length_cons, List.drop_succ_cons]
      constructor
      · rintro ⟨b', t', ⟨rfl, rfl⟩, h1, h2⟩
        obtain ⟨h3, h4⟩ := (ih _).1 h2
        exact ⟨⟨h1, h3⟩, h4⟩
      · rintro ⟨⟨h1, h3⟩, h4⟩
        exact ⟨b, t, ⟨rfl, rfl⟩, h1, (ih _).2 ⟨h3, h4⟩⟩
theorem seg_snoc : ∀ (m : List Pt) (t : S) (p : Pt) (h : m.length < t.length), Seg m t → p.fits t[m.length] = true → Seg (m ++ [p]) t
  | [], b :: t, p, _, _, hp => by simp only [List.nil_append, Seg, and_true]; simpa using hp
  | [], [], p, h, _, _ => by simp at h
  | _ :: _, [], _, h, _, _ => by simp at h
  | p' :: m, b :: t, p, h, hs, hp => by
    simp only [Seg, List.cons_append] at hs ⊢
    exact ⟨hs.1, seg_snoc m t p (by simpa using h) hs.2 (by simpa using hp)⟩
theorem greedy (m r : List Pt) (t : S) (hs : Seg m t) : Fit (.any :: (m ++ .any :: r)) t ↔ Fit (.any :: r) (t.drop m.length) := by
  have hm := seg_noAny hs
  have hl := seg_len hs
  rw [fit_any, fit_any]
  constructor
  · rintro ⟨k, hk, h⟩
    rw [fit_seg _ _ _ hm, fit_any] at h
    obtain ⟨h1, j, hj, h2⟩ := h
    have := seg_len h1
    simp only [List.drop_drop, List.length_drop] at *
    exact ⟨k + j, by omega, by rw [show m.length + (k + j) = k + m.length + j by omega]; simpa only [Nat.add_assoc, Nat.add_comm, Nat.add_left_comm] using h2⟩
  · rintro ⟨j, hj, h⟩
    refine ⟨0, by omega, ?_⟩
    rw [List.drop_zero, fit_seg _ _ _ hm, fit_any]
    exact ⟨hs, j, hj, h⟩
theorem endstar (m r : List Pt) (t : S) (hs : Seg m t) (he : m.length = t.length) : Fit (.any :: (m ++ r)) t ↔ Fit r [] := by
  have hm := seg_noAny hs
  rw [fit_any]
  constructor
  · rintro ⟨k, hk, h⟩
    rw [fit_seg _ _ _ hm] at h
    have := seg_len h.1
    simp only [List.length_drop] at this
    have hk0 : k = 0 := by omega
    subst hk0
    rw [List.drop_zero, List.drop_of_length_le (by omega)] at h
    exact h.2
  · intro h
    refine ⟨0, by omega, ?_⟩
    rw [List.drop_zero, fit_seg _ _ _ hm, List.drop_of_length_le (by omega)]
    exact ⟨hs, h⟩
theorem star_next (r : List Pt) (t : S) (i : Nat) (hi : i < t.length) : Fit (.any :: r) (t.drop i) ↔ Fit r (t.drop i) ∨ Fit (.any :: r) (t.drop (i + 1)) := by
  rw [fit_any, fit_any]
  simp only [List.drop_drop, List.length_drop]
  constructor
  · rintro ⟨k, hk, h⟩
    cases k with
    | zero => exact .inl (by simpa using h)
    | succ k => exact .inr ⟨k, by omega, by rw [show i + 1 + k = i + (k + 1) by omega]; exact h⟩
  · rintro (h | ⟨k, hk, h⟩)
    · exact ⟨0, by omega, by simpa using h⟩
    · exact ⟨k + 1, by omega, by rw [show i + (k + 1) = i + 1 + k by omega]; exact h⟩
theorem fit_nil : ∀ r : List Pt, Fit r [] ↔ r.all Pt.isAny = true
  | [] => by simp [Fit]
  | p :: r => by
    cases hp : p.isAny with
    | true =>
      cases p with
      | any => rw [fit_any]; simp [Pt.isAny, fit_nil r]
      | q => cases hp
      | lit c n => cases hp
    | false => rw [fit_one p hp]; simp [hp]
theorem fit_lits (f : UInt8 → Nat) (r : List Pt) : ∀ p t : S, Fit (p.map (fun b => .lit b (f b)) ++ r) (p ++ t) ↔ Fit r t
  | [], t => by simp
  | b :: p, t => by
    rw [List.map_cons, List.cons_append, fit_one _ rfl, List.cons_append]
    constructor
    · rintro ⟨b', s', e, _, h⟩
      simp only [List.cons.injEq] at e
      obtain ⟨rfl, rfl⟩ := e
      exact (fit_lits f r p t).1 h
    · intro h
      exact ⟨b, p ++ t, rfl, by simp [Pt.fits], (fit_lits f r p t).2 h⟩
theorem fit_lits_eq (f : UInt8 → Nat) : ∀ p t : S, Fit (p.map (fun b => .lit b (f b))) t ↔ p = t
  | [], t => by simp only [List.map_nil, Fit]; exact ⟨fun h => h.symm, fun h => h.symm⟩
  | b :: p, t => by
    rw [List.map_cons, fit_one _ rfl]
    constructor
    · rintro ⟨b', s', rfl, h1, h⟩
      simp only [Pt.fits, beq_iff_eq] at h1
      rw [h1, (fit_lits_eq f p s').1 h]
    · rintro rfl
      exact ⟨b, p, rfl, by simp [Pt.fits], (fit_lits_eq f p p).2 rfl⟩
/-- A measure of three parts. -/
def meas (N a b c : Nat) : Nat := (a * (N + 1) + b) * (N + 1) + c
theorem meas1 {N a a' b b' c c' : Nat} (h : a' < a) (hb : b' ≤ N) (hc : c' ≤ N) : meas N a' b' c' < meas N a b c := by
  unfold meas
  have h1 : a' * (N + 1) + b' + 1 ≤ a * (N + 1) + b := by
    have : (a' + 1) * (N + 1) ≤ a * (N + 1) := Nat.mul_le_mul_right _ h
    rw [Nat.add_mul] at this
    omega
  have h2 : (a' * (N + 1) + b' + 1) * (N + 1) ≤ (a * (N + 1) + b) * (N + 1) := Nat.mul_le_mul_right _ h1
  rw [Nat.add_mul] at h2
  omega
theorem meas2 {N a b b' c c' : Nat} (h : b' < b) (hc : c' ≤ N) : meas N a b' c' < meas N a b c := by
  unfold meas
  have h1 : a * (N + 1) + b' + 1 ≤ a * (N + 1) + b := by omega
  have h2 : (a * (N + 1) + b' + 1) * (N + 1) ≤ (a * (N + 1) + b) * (N + 1) := Nat.mul_le_mul_right _ h1
  rw [Nat.add_mul] at h2
  omega
theorem meas3 {N a b c c' : Nat} (h : c' < c) : meas N a b c' < meas N a b c := by unfold meas; omega
end Go.Proofs.Ytnifldbmflkmpaa
