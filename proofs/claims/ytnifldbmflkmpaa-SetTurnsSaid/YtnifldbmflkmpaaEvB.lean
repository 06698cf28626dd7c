/-
  How abstract values lie in the model's memory; what a step may change.
-/
import Derived.Test.YtnifldbmflkmpaaEvA
namespace Go.Proofs.Ytnifldbmflkmpaa.Ev
open Go
set_option linter.unusedVariables false
set_option linter.unusedSimpArgs false

/-- What is known of memory: cells that never change; which block a heap object is; the slice behind a right to append. -/
structure M where
  F : Addr → Option Value
  mu : Nat → Option Nat
  rho : Nat → Nat → Option (Addr × Nat)

/-- Cells lie, one behind the other, among those that never change. -/
def CellsF (F : Addr → Option Value) (a : Addr) (l : List Value) : Prop := ∀ i v, l[i]? = some v → F ⟨a.block, a.off + i, none⟩ = some v

def VCells (v : Value) : List Value := v.cells.toList

mutual
def VRel (m : M) : AV → Value → Prop
  | .bool b, v => v = .bool b
  | .int k n, v => v = .int k n
  | .str s, v => ∃ b : ByteArray, v = .string b ∧ b.data.toList = s
  | .nilp, v => v = .pointer none
  | .ptr b o, v => ∃ c, m.mu b = some c ∧ v = .pointer (some ⟨c, o, none⟩)
  | .rptr x, v => ∃ a cv, v = .pointer (some a) ∧ a.spot = none ∧ VRel m x cv ∧ CellsF m.F a (VCells cv)
  | .nils, v => v = .slice none 0 0
  | .list xs nn cap tok, v =>
    (xs = [] ∧ nn = false ∧ (∀ c, cap = some c → c = 0) ∧ tok = none ∧ v = .slice none 0 0) ∨
    ∃ a cap' cvs s, v = .slice (some a) xs.length cap' ∧ (cap' ≠ 0 → a.spot = none) ∧ xs.length ≤ cap' ∧ VRelL m xs cvs ∧ (∀ cv ∈ cvs, (VCells cv).length = s) ∧
      CellsF m.F a (cvs.flatMap VCells) ∧ (∀ c, cap = some c → c = cap') ∧ (∀ τ, tok = some τ → m.rho τ xs.length = some (a, cap'))
  | .slice b o len cap, v => ∃ c, m.mu b = some c ∧ v = .slice (some ⟨c, o, none⟩) len cap
  | .func fn x y, v => ∃ xs ys, v = .func fn xs ys ∧ VRelL m x xs.toList ∧ VRelL m y ys.toList
  | .nilFunc, v => v = .nilFunc
  | .iface t x, v => ∃ cv, v = .iface t cv ∧ VRel m x cv
  | .nilIface, v => v = .nilIface
  | .agg cs, v => ∃ cvs, v = .agg cvs ∧ VRelL m cs cvs.toList
  | .tuple vs, v => ∃ cvs, v = .tuple cvs ∧ VRelL m vs cvs.toList
def VRelL (m : M) : List AV → List Value → Prop
  | [], l => l = []
  | x :: xs, l => ∃ v vs, l = v :: vs ∧ VRel m x v ∧ VRelL m xs vs
end

theorem VRelL.length {m : M} : ∀ {xs : List AV} {vs : List Value}, VRelL m xs vs → vs.length = xs.length
  | [], _, h => by simp only [VRelL] at h; subst h; rfl
  | _ :: xs, _, h => by
    simp only [VRelL] at h
    obtain ⟨v, vs, rfl, _, h⟩ := h
    simp [VRelL.length h]

theorem VRelL.get {m : M} : ∀ {xs : List AV} {vs : List Value} {i : Nat} {x : AV}, VRelL m xs vs → xs[i]? = some x → ∃ v, vs[i]? = some v ∧ VRel m x v
  | [], _, _, _, _, hx => by simp at hx
  | y :: xs, _, i, x, h, hx => by
    simp only [VRelL] at h
    obtain ⟨v, vs, rfl, h1, h2⟩ := h
    cases i with
    | zero => simp at hx; subst hx; exact ⟨v, by simp, h1⟩
    | succ i => simp at hx; obtain ⟨w, hw, hr⟩ := VRelL.get h2 hx; exact ⟨w, by simpa using hw, hr⟩

theorem VRelL.of_get {m : M} : ∀ {xs : List AV} {vs : List Value}, vs.length = xs.length → (∀ (i : Nat) (x : AV) (v : Value), xs[i]? = some x → vs[i]? = some v → VRel m x v) → VRelL m xs vs
  | [], vs, hl, _ => by simp only [VRelL]; exact List.eq_nil_of_length_eq_zero (by simpa using hl)
  | x :: xs, [], hl, _ => by simp at hl
  | x :: xs, v :: vs, hl, h => by
    simp only [VRelL]
    exact ⟨v, vs, rfl, h 0 x v (by simp) (by simp), VRelL.of_get (by simpa using hl) fun i y w hy hw => h (i + 1) y w (by simpa using hy) (by simpa using hw)⟩

theorem VRelL.append {m : M} : ∀ {xs ys : List AV} {vs ws : List Value}, VRelL m xs vs → VRelL m ys ws → VRelL m (xs ++ ys) (vs ++ ws)
  | [], _, _, _, h, h' => by simp only [VRelL] at h; subst h; simpa using h'
  | _ :: xs, _, _, _, h, h' => by
    simp only [VRelL] at h
    obtain ⟨v, vs, rfl, h1, h2⟩ := h
    simp only [List.cons_append, VRelL]
    exact ⟨v, _, rfl, h1, VRelL.append h2 h'⟩

theorem VRelL.take {m : M} : ∀ {xs : List AV} {vs : List Value} (n : Nat), VRelL m xs vs → VRelL m (xs.take n) (vs.take n)
  | [], _, n, h => by simp only [VRelL] at h; subst h; simp [VRelL]
  | _ :: xs, _, 0, h => by simp [VRelL]
  | _ :: xs, _, n + 1, h => by
    simp only [VRelL] at h
    obtain ⟨v, vs, rfl, h1, h2⟩ := h
    simp only [List.take_succ_cons, VRelL]
    exact ⟨v, _, rfl, h1, VRelL.take n h2⟩
theorem VRelL.drop {m : M} : ∀ {xs : List AV} {vs : List Value} (n : Nat), VRelL m xs vs → VRelL m (xs.drop n) (vs.drop n)
  | [], _, n, h => by simp only [VRelL] at h; subst h; simp [VRelL]
  | _ :: xs, _, 0, h => by simpa using h
  | _ :: xs, _, n + 1, h => by
    simp only [VRelL] at h
    obtain ⟨v, vs, rfl, h1, h2⟩ := h
    simpa using VRelL.drop n h2
theorem VRelL.set {m : M} {x : AV} {v : Value} (hx : VRel m x v) : ∀ {xs : List AV} {vs : List Value} (n : Nat), VRelL m xs vs → VRelL m (xs.set n x) (vs.set n v)
  | [], _, n, h => by simp only [VRelL] at h; subst h; simp [VRelL]
  | _ :: xs, _, 0, h => by
    simp only [VRelL] at h
    obtain ⟨w, vs, rfl, h1, h2⟩ := h
    simp only [List.set_cons_zero, VRelL]
    exact ⟨v, vs, rfl, hx, h2⟩
  | _ :: xs, _, n + 1, h => by
    simp only [VRelL] at h
    obtain ⟨w, vs, rfl, h1, h2⟩ := h
    simp only [List.set_cons_succ, VRelL]
    exact ⟨w, _, rfl, h1, VRelL.set hx n h2⟩
theorem VRelL.replicate {m : M} {x : AV} {v : Value} (hx : VRel m x v) : ∀ n, VRelL m (List.replicate n x) (List.replicate n v)
  | 0 => by simp [VRelL]
  | n + 1 => by simp only [List.replicate_succ, VRelL]; exact ⟨v, _, rfl, hx, VRelL.replicate hx n⟩
theorem VRelL.nil {m : M} : VRelL m [] [] := by simp [VRelL]
theorem VRelL.cons {m : M} {x : AV} {v : Value} {xs : List AV} {vs : List Value} (h : VRel m x v) (h' : VRelL m xs vs) : VRelL m (x :: xs) (v :: vs) := by
  simp only [VRelL]; exact ⟨v, vs, rfl, h, h'⟩

/-- More is known. -/
structure M.le (m m' : M) : Prop where
  F : ∀ a v, m.F a = some v → m'.F a = some v
  mu : ∀ i c, m.mu i = some c → m'.mu i = some c
  rho : ∀ i n r, m.rho i n = some r → m'.rho i n = some r
theorem M.le.refl (m : M) : m.le m := ⟨fun _ _ h => h, fun _ _ h => h, fun _ _ _ h => h⟩
theorem M.le.trans {a b c : M} (h : a.le b) (k : b.le c) : a.le c := ⟨fun x v e => k.F _ _ (h.F _ _ e), fun i x e => k.mu _ _ (h.mu _ _ e), fun i n r e => k.rho _ _ _ (h.rho _ _ _ e)⟩

theorem CellsF.mono {F F' : Addr → Option Value} (h : ∀ a v, F a = some v → F' a = some v) {a : Addr} {l : List Value} (hc : CellsF F a l) : CellsF F' a l :=
  fun i v e => h _ _ (hc i v e)

mutual
theorem VRel.mono {m m' : M} (h : m.le m') : ∀ (x : AV) (v : Value), VRel m x v → VRel m' x v
  | .bool _, _, e => by simpa only [VRel] using e
  | .int _ _, _, e => by simpa only [VRel] using e
  | .str _, _, e => by simpa only [VRel] using e
  | .nilp, _, e => by simpa only [VRel] using e
  | .ptr _ _, _, e => by simp only [VRel] at e ⊢; obtain ⟨c, h1, h2⟩ := e; exact ⟨c, h.mu _ _ h1, h2⟩
  | .rptr x, _, e => by
    simp only [VRel] at e ⊢
    obtain ⟨a, cv, h1, h2, h3, h4⟩ := e
    exact ⟨a, cv, h1, h2, VRel.mono h x cv h3, h4.mono h.F⟩
  | .nils, _, e => by simpa only [VRel] using e
  | .list xs _ _ _, _, e => by
    simp only [VRel] at e ⊢
    rcases e with e | ⟨a, cap', cvs, s, h1, h2, h3, h4, h5, h6, h7, h8⟩
    · exact .inl e
    · exact .inr ⟨a, cap', cvs, s, h1, h2, h3, VRelL.mono h xs cvs h4, h5, h6.mono h.F, h7, fun τ e => h.rho _ _ _ (h8 τ e)⟩
  | .slice _ _ _ _, _, e => by simp only [VRel] at e ⊢; obtain ⟨c, h1, h2⟩ := e; exact ⟨c, h.mu _ _ h1, h2⟩
  | .func _ x y, _, e => by
    simp only [VRel] at e ⊢
    obtain ⟨xs, ys, h1, h2, h3⟩ := e
    exact ⟨xs, ys, h1, VRelL.mono h x _ h2, VRelL.mono h y _ h3⟩
  | .nilFunc, _, e => by simpa only [VRel] using e
  | .iface _ x, _, e => by simp only [VRel] at e ⊢; obtain ⟨cv, h1, h2⟩ := e; exact ⟨cv, h1, VRel.mono h x cv h2⟩
  | .nilIface, _, e => by simpa only [VRel] using e
  | .agg cs, _, e => by simp only [VRel] at e ⊢; obtain ⟨cvs, h1, h2⟩ := e; exact ⟨cvs, h1, VRelL.mono h cs _ h2⟩
  | .tuple cs, _, e => by simp only [VRel] at e ⊢; obtain ⟨cvs, h1, h2⟩ := e; exact ⟨cvs, h1, VRelL.mono h cs _ h2⟩
theorem VRelL.mono {m m' : M} (h : m.le m') : ∀ (x : List AV) (v : List Value), VRelL m x v → VRelL m' x v
  | [], _, e => by simpa only [VRelL] using e
  | x :: xs, _, e => by
    simp only [VRelL] at e ⊢
    obtain ⟨v, vs, h1, h2, h3⟩ := e
    exact ⟨v, vs, h1, VRel.mono h x v h2, VRelL.mono h xs vs h3⟩
end

mutual
theorem VRel.strip {m : M} : ∀ (x : AV) (v : Value), VRel m x v → VRel m x.strip v
  | .bool _, _, e => by simpa only [AV.strip, VRel] using e
  | .int _ _, _, e => by simpa only [AV.strip, VRel] using e
  | .str _, _, e => by simpa only [AV.strip, VRel] using e
  | .nilp, _, e => by simpa only [AV.strip, VRel] using e
  | .ptr _ _, _, e => by simpa only [AV.strip, VRel] using e
  | .rptr x, _, e => by
    simp only [AV.strip, VRel] at e ⊢
    obtain ⟨a, cv, h1, h2, h3, h4⟩ := e
    exact ⟨a, cv, h1, h2, VRel.strip x cv h3, h4⟩
  | .nils, _, e => by simp only [AV.strip, VRel] at e ⊢; exact .inl ⟨by simp, by simp, by simp, by simp, e⟩
  | .list xs _ _ _, _, e => by
    simp only [AV.strip, VRel] at e ⊢
    rcases e with ⟨h0, _, _, _, h4⟩ | ⟨a, cap', cvs, s, h1, h2, h3, h4, h5, h6, _, _⟩
    · subst h0; exact .inl ⟨by simp only [stripL], by simp, by simp, by simp, h4⟩
    · have hl : (stripL xs).length = xs.length := stripL_length xs
      exact .inr ⟨a, cap', cvs, s, by rw [hl]; exact h1, h2, by rw [hl]; exact h3, VRelL.strip xs cvs h4, h5, h6, by simp, by simp⟩
  | .slice _ _ _ _, _, e => by simpa only [AV.strip, VRel] using e
  | .func _ x y, _, e => by
    simp only [AV.strip, VRel] at e ⊢
    obtain ⟨xs, ys, h1, h2, h3⟩ := e
    exact ⟨xs, ys, h1, VRelL.strip x _ h2, VRelL.strip y _ h3⟩
  | .nilFunc, _, e => by simpa only [AV.strip, VRel] using e
  | .iface _ x, _, e => by simp only [AV.strip, VRel] at e ⊢; obtain ⟨cv, h1, h2⟩ := e; exact ⟨cv, h1, VRel.strip x cv h2⟩
  | .nilIface, _, e => by simpa only [AV.strip, VRel] using e
  | .agg cs, _, e => by simp only [AV.strip, VRel] at e ⊢; obtain ⟨cvs, h1, h2⟩ := e; exact ⟨cvs, h1, VRelL.strip cs _ h2⟩
  | .tuple cs, _, e => by simp only [AV.strip, VRel] at e ⊢; obtain ⟨cvs, h1, h2⟩ := e; exact ⟨cvs, h1, VRelL.strip cs _ h2⟩
theorem VRelL.strip {m : M} : ∀ (x : List AV) (v : List Value), VRelL m x v → VRelL m (stripL x) v
  | [], _, e => by simpa only [stripL, VRelL] using e
  | x :: xs, _, e => by
    simp only [stripL, VRelL] at e ⊢
    obtain ⟨v, vs, h1, h2, h3⟩ := e
    exact ⟨v, vs, h1, VRel.strip x v h2, VRelL.strip xs vs h3⟩
theorem stripL_length : ∀ xs : List AV, (stripL xs).length = xs.length
  | [] => by simp only [stripL]
  | _ :: xs => by simp only [stripL, List.length_cons, stripL_length xs]
end

/-- Only what is said of the first n heap objects. -/
def M.upto (m : M) (n : Nat) : M := ⟨m.F, fun i => if i < n then m.mu i else none, fun i k => if i < n then m.rho i k else none⟩

mutual
theorem VRel.upto {m : M} {n : Nat} : ∀ (x : AV) (v : Value), x.clean n = true → VRel m x v → VRel (m.upto n) x v
  | .bool _, _, _, e => by simpa only [VRel] using e
  | .int _ _, _, _, e => by simpa only [VRel] using e
  | .str _, _, _, e => by simpa only [VRel] using e
  | .nilp, _, _, e => by simpa only [VRel] using e
  | .ptr b _, _, hc, e => by
    simp only [VRel] at e ⊢; obtain ⟨c, h1, h2⟩ := e
    have hb : b < n := by simpa only [AV.clean, decide_eq_true_eq] using hc
    exact ⟨c, by simp only [M.upto, if_pos hb, h1], h2⟩
  | .rptr x, _, hc, e => by
    simp only [VRel] at e ⊢
    obtain ⟨a, cv, h1, h2, h3, h4⟩ := e
    exact ⟨a, cv, h1, h2, VRel.upto x cv (by simpa only [AV.clean] using hc) h3, h4⟩
  | .nils, _, _, e => by simpa only [VRel] using e
  | .list xs _ _ tok, _, hc, e => by
    simp only [VRel] at e ⊢
    simp only [AV.clean, Bool.and_eq_true] at hc
    rcases e with e | ⟨a, cap', cvs, s, h1, h2, h3, h4, h5, h6, h7, h8⟩
    · exact .inl e
    · refine .inr ⟨a, cap', cvs, s, h1, h2, h3, VRelL.upto xs cvs hc.1 h4, h5, h6, h7, fun τ e => ?_⟩
      have := hc.2
      rw [e] at this
      have hτ : τ < n := by simpa only [decide_eq_true_eq] using this
      simp only [M.upto, if_pos hτ]
      exact h8 τ e
  | .slice b _ _ _, _, hc, e => by
    simp only [VRel] at e ⊢; obtain ⟨c, h1, h2⟩ := e
    have hb : b < n := by simpa only [AV.clean, decide_eq_true_eq] using hc
    exact ⟨c, by simp only [M.upto, if_pos hb, h1], h2⟩
  | .func _ x y, _, hc, e => by
    simp only [VRel] at e ⊢
    simp only [AV.clean, Bool.and_eq_true] at hc
    obtain ⟨xs, ys, h1, h2, h3⟩ := e
    exact ⟨xs, ys, h1, VRelL.upto x _ hc.1 h2, VRelL.upto y _ hc.2 h3⟩
  | .nilFunc, _, _, e => by simpa only [VRel] using e
  | .iface _ x, _, hc, e => by simp only [VRel] at e ⊢; obtain ⟨cv, h1, h2⟩ := e; exact ⟨cv, h1, VRel.upto x cv (by simpa only [AV.clean] using hc) h2⟩
  | .nilIface, _, _, e => by simpa only [VRel] using e
  | .agg cs, _, hc, e => by simp only [VRel] at e ⊢; obtain ⟨cvs, h1, h2⟩ := e; exact ⟨cvs, h1, VRelL.upto cs _ (by simpa only [AV.clean] using hc) h2⟩
  | .tuple cs, _, hc, e => by simp only [VRel] at e ⊢; obtain ⟨cvs, h1, h2⟩ := e; exact ⟨cvs, h1, VRelL.upto cs _ (by simpa only [AV.clean] using hc) h2⟩
theorem VRelL.upto {m : M} {n : Nat} : ∀ (x : List AV) (v : List Value), cleanL n x = true → VRelL m x v → VRelL (m.upto n) x v
  | [], _, _, e => by simpa only [VRelL] using e
  | x :: xs, _, hc, e => by
    simp only [VRelL] at e ⊢
    simp only [cleanL, Bool.and_eq_true] at hc
    obtain ⟨v, vs, h1, h2, h3⟩ := e
    exact ⟨v, vs, h1, VRel.upto x v hc.1 h2, VRelL.upto xs vs hc.2 h3⟩
end

/-- The cells of a value lie as its abstract cells say. -/
theorem VRel.cells {m : M} {x : AV} {v : Value} (h : VRel m x v) : VRelL m x.cells (VCells v) := by
  cases x with
  | agg cs => simp only [VRel] at h; obtain ⟨cvs, rfl, h⟩ := h; exact h
  | bool b => simp only [VRel] at h; subst h; exact .cons (by simp only [VRel]) .nil
  | int k n => simp only [VRel] at h; subst h; exact .cons (by simp only [VRel]) .nil
  | str s => have h' := h; simp only [VRel] at h; obtain ⟨b, rfl, _⟩ := h; exact .cons h' .nil
  | nilp => have h' := h; simp only [VRel] at h; subst h; exact .cons h' .nil
  | ptr b o => have h' := h; simp only [VRel] at h; obtain ⟨c, _, rfl⟩ := h; exact .cons h' .nil
  | rptr x => have h' := h; simp only [VRel] at h; obtain ⟨a, cv, rfl, _⟩ := h; exact .cons h' .nil
  | nils => have h' := h; simp only [VRel] at h; subst h; exact .cons h' .nil
  | list xs nn cap tok =>
    have h' := h
    simp only [VRel] at h
    rcases h with ⟨_, _, _, _, rfl⟩ | ⟨a, cap', cvs, s, rfl, _⟩ <;> exact .cons h' .nil
  | slice b o l c => have h' := h; simp only [VRel] at h; obtain ⟨c, _, rfl⟩ := h; exact .cons h' .nil
  | func fn a b => have h' := h; simp only [VRel] at h; obtain ⟨xs, ys, rfl, _⟩ := h; exact .cons h' .nil
  | nilFunc => have h' := h; simp only [VRel] at h; subst h; exact .cons h' .nil
  | iface t x => have h' := h; simp only [VRel] at h; obtain ⟨cv, rfl, _⟩ := h; exact .cons h' .nil
  | nilIface => have h' := h; simp only [VRel] at h; subst h; exact .cons h' .nil
  | tuple vs => have h' := h; simp only [VRel] at h; obtain ⟨cvs, rfl, _⟩ := h; exact .cons h' .nil

end Go.Proofs.Ytnifldbmflkmpaa.Ev
