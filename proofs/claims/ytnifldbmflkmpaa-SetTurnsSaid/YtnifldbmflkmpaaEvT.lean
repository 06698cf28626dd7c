/-
  Calls of functions that look at, or change, their caller's small heap.
-/
import Derived.Test.YtnifldbmflkmpaaEvR
namespace Go.Proofs.Ytnifldbmflkmpaa.Ev
open Go
set_option linter.unusedVariables false
set_option linter.unusedSimpArgs false

/-- The answer of a function that is not pure: value, heap, whether something of the caller's was written. -/
def RetI (C : Cfg) (f : FuncId) (vs : List AV) (h : Heap) (Q : AV → Heap → Bool → Prop) : Prop :=
  ∃ k v h' d', (∀ d, callF C (evalF C k) f vs h d = some (v, h', d || d')) ∧ Q v h' d'

theorem RetI.mono {C : Cfg} {f : FuncId} {vs : List AV} {h : Heap} {Q Q' : AV → Heap → Bool → Prop} (r : RetI C f vs h Q) (hq : ∀ v h' d', Q v h' d' → Q' v h' d') : RetI C f vs h Q' := by
  obtain ⟨k, v, h', d', e, q⟩ := r
  exact ⟨k, v, h', d', e, hq _ _ _ q⟩

/-- How such a function's body must end. -/
def DoneI (C : Cfg) (fn : Func) (h : Heap) (Q : AV → Heap → Bool → Prop) : Ex → St → Prop
  | .exit _, _ => False
  | _, st => ∃ v, resultsA C.P fn.results.toList st.fr st.h = some v ∧ if (!st.d && v.clean h.length) = true then Q v h false else Q v st.h st.d

theorem RetI.of_body {C : Cfg} {f : FuncId} {fn : Func} {c : Code} {vs : List AV} {h : Heap} {Q : AV → Heap → Bool → Prop} (hp : C.prim f = none) (hm : C.mode f = .impure) (hfn : C.P.funcs[f]? = some fn) (hb : fn.body = some c)
    (hev : Ev C h.length c ⟨vs ++ List.replicate (fn.ntmps - vs.length) .undef, h, false⟩ (DoneI C fn h Q)) : RetI C f vs h Q := by
  obtain ⟨n, x, st, h1, h2⟩ := hev
  have hF : ∃ v h' d', evalF C (n + 1) f vs h = some (v, h', d') ∧ Q v h' d' := by
    rw [evalF, if_neg (by rw [hm]; simp)]
    simp only [hfn, hb, h1]
    cases x with
    | exit i => exact h2.elim
    | normal =>
      obtain ⟨v, hr, hs⟩ := h2
      simp only [hr]
      split
      · rename_i hc; rw [if_pos hc] at hs; exact ⟨_, _, _, rfl, hs⟩
      · rename_i hc; rw [if_neg hc] at hs; exact ⟨_, _, _, rfl, hs⟩
    | ret =>
      obtain ⟨v, hr, hs⟩ := h2
      simp only [hr]
      split
      · rename_i hc; rw [if_pos hc] at hs; exact ⟨_, _, _, rfl, hs⟩
      · rename_i hc; rw [if_neg hc] at hs; exact ⟨_, _, _, rfl, hs⟩
  obtain ⟨v, h', d', e1, e2⟩ := hF
  exact ⟨n + 1, v, h', d', fun d => by unfold callF; simp only [hp, hm, e1], e2⟩

/-- A call of such a function (by name: first, captured are empty; or a function value). -/
theorem EvOps.calli {C : Cfg} {base : Nat} {ops : Array Oper} {o : Oper} {l : List Oper} {st : St} {Q : St → Prop} {Q' : AV → Heap → Bool → Prop} {f : Operand} {g : FuncId} {first captured : List AV} {args : Array Operand} {ts : Array TypeId} {vs : List AV}
    (hop : o.op = .call ⟨.value f, args, ts⟩) (hf : evalOperand st.fr f = some (.func (.func g) first captured)) (hw : Region.wanted o (yieldedA ops st.fr) = true) (hargs : args.toList.mapM (evalOperand st.fr) = some vs) (hr : RetI C g (first ++ vs ++ captured) st.h Q')
    (hq : ∀ v h' d', Q' v h' d' → EvOps C base ops l (St.put ⟨st.fr, h', st.d || d'⟩ o.dst v) Q) : EvOps C base ops (o :: l) st Q := by
  obtain ⟨k, v, h', d', hk, hv⟩ := hr
  obtain ⟨n, s, h1, h2⟩ := hq v h' d' hv
  refine ⟨max n k, s, ?_, h2⟩
  have hstep : stepOp C (evalF C (max n k)) base ops o st = some (St.put ⟨st.fr, h', st.d || d'⟩ o.dst v) := by
    have hc := callF_mono (C := C) (evalF_mono (Nat.le_max_right n k)) (hk st.d)
    unfold stepOp
    rw [if_pos hw]
    unfold evalOp
    simp only [hop, hargs, hf, hc]
  rw [evalOps, hstep]
  exact evalOps_mono (evalF_mono (Nat.le_max_left _ _)) h1

theorem appendA_growB {P : Program} {base : Nat} {t u e : TypeId} {n by_ : Nat} {z : AV} {ud : TypeDesc} (ht : P.underlying t = some (.slice e)) (hu : P.underlying u = some ud) (hud : appendable ud = true) (hn : tySize P e = some n) (hb : tyBytes P e = some by_) (hz : tyZero P e = some z) (hzn : z.cells.length = n)
    {h : Heap} {x y : AV} {xs ys : List AV} (g : Grow n h x xs) (hx : headOk n xs = true) (hy : elemsA h n y = some ys) (hlim : (xs.length + ys.length) * by_ ≤ 35184372088832 ∧ xs.length + ys.length ≤ 35184372088832) (hbase : base ≤ h.length) :
    ∃ x' h' wr, appendA P [t, u] h x y = some (x', h', wr) ∧ Grow n h' x' (xs ++ ys) ∧ Stays x h x' h' ∧ (ys ≠ [] → wrDirty base wr = true ∨ ∃ i, tokOf x' = some i ∧ base ≤ i) := by
  unfold appendA
  simp only [ht, hu, hud, hn, hb, hz, hy, hzn]
  simp only [ne_eq, not_true, if_false, reduceCtorEq]
  rcases g with ⟨rfl, rfl⟩ | ⟨τ, rfl, hτ⟩ | ⟨nn, rfl⟩
  · simp only [List.length_nil, Nat.zero_add, List.nil_append] at hlim ⊢
    by_cases he : ys.isEmpty = true
    · rw [if_pos he]
      have : ys = [] := List.isEmpty_iff.1 he
      subst this
      exact ⟨_, _, _, rfl, Grow.nils _ _, ⟨Nat.le_refl _, fun _ _ _ => rfl, .inl rfl⟩, fun h => (h rfl).elim⟩
    · rw [if_neg he, if_pos hlim]
      refine ⟨_, _, _, rfl, .inr (.inl ⟨_, rfl, by simp⟩), ⟨by simp, fun i hi _ => by rw [List.getElem?_append_left hi], .inr fun i hi => ?_⟩, fun _ => .inr ⟨_, rfl, hbase⟩⟩
      simp only [tokOf, Option.some.injEq] at hi
      omega
  · by_cases he : ys.isEmpty = true
    · simp only [if_pos he]
      have : ys = [] := List.isEmpty_iff.1 he
      subst this
      exact ⟨_, _, _, rfl, .inr (.inl ⟨τ, by simp, by simpa using hτ⟩), ⟨Nat.le_refl _, fun _ _ _ => rfl, .inl rfl⟩, fun h => (h rfl).elim⟩
    · simp only [if_neg he, hlim, and_self, not_true, if_false, hx, hτ, reduceCtorEq]
      refine ⟨_, _, _, rfl, .inr (.inl ⟨τ, rfl, ?_⟩), ⟨by simp, fun i hi hne => ?_, .inl rfl⟩, fun _ => ?_⟩
      · rw [List.getElem?_set_self (List.getElem?_eq_some_iff.1 hτ).1, List.length_append]
      · rw [List.getElem?_set_ne]
        intro e
        exact hne (by simp [tokOf, e])
      · by_cases hb : τ < base
        · left; simp [wrDirty, hb]
        · right; exact ⟨τ, rfl, by omega⟩
  · by_cases he : ys.isEmpty = true
    · simp only [if_pos he]
      have : ys = [] := List.isEmpty_iff.1 he
      subst this
      exact ⟨_, _, _, rfl, .inr (.inr ⟨nn, by simp⟩), ⟨Nat.le_refl _, fun _ _ _ => rfl, .inl rfl⟩, fun h => (h rfl).elim⟩
    · simp only [if_neg he, hlim, and_self, not_true, if_false, hx, if_true, reduceCtorEq]
      refine ⟨_, _, _, rfl, .inr (.inl ⟨_, rfl, by simp⟩), ⟨by simp, fun i hi _ => by rw [List.getElem?_append_left hi], .inr fun i hi => ?_⟩, fun _ => .inr ⟨_, rfl, hbase⟩⟩
      simp only [tokOf, Option.some.injEq] at hi
      omega

/-- append, of a list that grows, over any base. -/
theorem EvOps.appendB {C : Cfg} {base : Nat} {ops : Array Oper} {o : Oper} {l : List Oper} {st : St} {Q : St → Prop} {args : Array Operand} {ts : Array TypeId} {t u e : TypeId} {n by_ : Nat} {z : AV} {ud : TypeDesc} {x y : AV} {xs ys : List AV}
    (hop : o.op = .call ⟨.builtin .append, args, ts⟩) (hts : ts = #[t, u]) (hw : Region.wanted o (yieldedA ops st.fr) = true) (hargs : args.toList.mapM (evalOperand st.fr) = some [x, y])
    (ht : C.P.underlying t = some (.slice e)) (hu : C.P.underlying u = some ud) (hud : appendable ud = true) (hn : tySize C.P e = some n) (hb : tyBytes C.P e = some by_) (hz : tyZero C.P e = some z) (hzn : z.cells.length = n)
    (g : Grow n st.h x xs) (hx : headOk n xs = true) (hy : elemsA st.h n y = some ys) (hlim : (xs.length + ys.length) * by_ ≤ 35184372088832 ∧ xs.length + ys.length ≤ 35184372088832) (hbase : base ≤ st.h.length)
    (hq : ∀ x' h' d', Grow n h' x' (xs ++ ys) → Stays x st.h x' h' → (ys ≠ [] → d' = true ∨ ∃ i, tokOf x' = some i ∧ base ≤ i) → EvOps C base ops l (St.put ⟨st.fr, h', st.d || d'⟩ o.dst x') Q) : EvOps C base ops (o :: l) st Q := by
  obtain ⟨x', h', wr, e1, e2, e3, e4⟩ := appendA_growB (base := base) ht hu hud hn hb hz hzn g hx hy hlim hbase
  refine EvOps.one (st' := St.put ⟨st.fr, h', st.d || wrDirty base wr⟩ o.dst x') (fun call => ?_) (hq x' h' _ e2 e3 e4)
  subst hts
  have : evalOp C call base o (evalOperand st.fr) st.h st.d = some (x', h', st.d || wrDirty base wr) := by
    unfold evalOp
    simp only [hop, hargs, e1, Option.map_some]
  unfold stepOp
  rw [if_pos hw]
  simp only [this]
theorem not_clean {x : AV} {n i : Nat} (h : tokOf x = some i) (hi : n ≤ i) : x.clean n = false := by
  cases x <;> simp only [tokOf, reduceCtorEq] at h
  subst h
  simp [AV.clean, hi]
@[simp] theorem heap_last (h : Heap) (x : AO) : (h ++ [x])[h.length]? = some x := by simp
theorem EvOps.mono {C : Cfg} {base : Nat} {ops : Array Oper} {l : List Oper} {st : St} {Q Q' : St → Prop} (h : EvOps C base ops l st Q) (hq : ∀ s, Q s → Q' s) : EvOps C base ops l st Q' := by
  obtain ⟨n, s, h1, h2⟩ := h
  exact ⟨n, s, h1, hq s h2⟩
/-- The first k operations, and what is kept of them. -/
theorem EvOps.mid (k : Nat) {C : Cfg} {base : Nat} {ops : Array Oper} {l : List Oper} {st : St} {Q : St → Prop} (K : St → Prop) (h1 : EvOps C base ops (l.take k) st K) (h2 : ∀ s, K s → EvOps C base ops (l.drop k) s Q) : EvOps C base ops l st Q :=
  EvOps.take k (h1.mono h2)
/-- A piece of code, and what is kept of it. -/
theorem Ev.mid {C : Cfg} {base : Nat} {a b : Code} {st : St} {Q : Ex → St → Prop} (K : St → Prop) (h1 : Ev C base a st (onNormal K Q)) (h2 : ∀ s, K s → Ev C base b s Q) : Ev C base (a.seq b) st Q :=
  Ev.seq (h1.mono fun x s h => by cases x <;> first | exact h2 s h | exact h)
theorem Grow.push {n : Nat} {h : Heap} {x : AV} {xs : List AV} (g : Grow n h x xs) (o : AO) : Grow n (h ++ [o]) x xs := by
  rcases g with g | ⟨τ, rfl, e⟩ | g
  · exact .inl g
  · refine .inr (.inl ⟨τ, rfl, ?_⟩)
    rw [List.getElem?_append_left (List.getElem?_eq_some_iff.1 e).1]
    exact e
  · exact .inr (.inr g)
theorem Grow.tok_lt {n : Nat} {h : Heap} {x : AV} {xs : List AV} (g : Grow n h x xs) {i : Nat} (e : tokOf x = some i) : i < h.length := by
  rcases g with ⟨rfl, _⟩ | ⟨τ, rfl, e'⟩ | ⟨nn, rfl⟩
  · simp [tokOf] at e
  · simp only [tokOf, Option.some.injEq] at e
    subst e
    exact (List.getElem?_eq_some_iff.1 e').1
  · simp [tokOf] at e
theorem Stays.refl (x : AV) (h : Heap) : Stays x h x h := ⟨Nat.le_refl _, fun _ _ _ => rfl, .inl rfl⟩
theorem Stays.trans {x x' x'' : AV} {h h' h'' : Heap} (s : Stays x h x' h') (t : Stays x' h' x'' h'') : Stays x h x'' h'' where
  len := Nat.le_trans s.len t.len
  old := fun i hi hne => by
    rw [t.old i (Nat.lt_of_lt_of_le hi s.len) ?_, s.old i hi hne]
    intro e
    rcases s.tok with q | q
    · exact hne (by rw [← q]; exact e)
    · have := q i e; omega
  tok := by
    rcases t.tok with q | q
    · rcases s.tok with p | p
      · exact .inl (q.trans p)
      · exact .inr fun i e => p i (by rw [← q]; exact e)
    · exact .inr fun i e => Nat.le_trans s.len (q i e)
theorem Stays.push (x : AV) (h : Heap) (o : AO) : Stays x h x (h ++ [o]) := ⟨by simp, fun i hi _ => by rw [List.getElem?_append_left hi], .inl rfl⟩
theorem loud {d : Bool} {x : AV} {n : Nat} (h : d = true ∨ ∃ i, tokOf x = some i ∧ n ≤ i) : (!d && x.clean n) = false := by
  rcases h with rfl | ⟨i, e, hi⟩
  · rfl
  · rw [not_clean e hi, Bool.and_false]
@[simp] theorem heap_set_last (h : Heap) (x y : AO) : (h ++ [x]).set h.length y = h ++ [y] := by
  rw [List.set_append_right _ _ (Nat.le_refl _)]; simp
theorem heap_old {h : Heap} {x : AO} {i : Nat} {y : AO} (e : h[i]? = some y) : (h ++ [x])[i]? = some y := by
  rw [List.getElem?_append_left (List.getElem?_eq_some_iff.1 e).1]; exact e
theorem loud_if {d : Bool} {x : AV} {n : Nat} {p q : Prop} (h : d = true ∨ ∃ i, tokOf x = some i ∧ n ≤ i) (hq : q) : if (!d && x.clean n) = true then p else q := by
  rw [if_neg (by rw [loud h]; simp)]; exact hq
theorem quiet_if {x : AV} {n : Nat} {p q : Prop} (h : x.clean n = true) (hp : p) : if (!false && x.clean n) = true then p else q := by
  rw [if_pos (by rw [h]; rfl)]; exact hp
end Go.Proofs.Ytnifldbmflkmpaa.Ev
