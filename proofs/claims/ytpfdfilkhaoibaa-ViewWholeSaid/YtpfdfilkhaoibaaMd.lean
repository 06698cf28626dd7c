/-
  Parts, one behind the other: EvS, EvT, EvU, EvV, EvW.
-/
import Derived.Lib.Overlaps
import Derived.Test.YtpfdfilkhaoibaaMc
/-
  A function of one list that asks whether the list is nil: its contract, from two runs.
-/
namespace Go.Proofs.Ytpfdfilkhaoibaa.Ev
open Go
set_option linter.unusedVariables false
set_option linter.unusedSimpArgs false

mutual
theorem strip_idem : ∀ x : AV, x.strip.strip = x.strip
  | .bool _ => rfl
  | .int _ _ => rfl
  | .str _ => rfl
  | .nilp => rfl
  | .nils => by simp
  | .raw _ => rfl
  | .nilFunc => rfl
  | .nilIface => rfl
  | .ptr _ _ => rfl
  | .slice _ _ _ _ _ _ => rfl
  | .func _ a b => by simp only [AV.strip, stripL_idem a, stripL_idem b]
  | .rptr x => by simp only [AV.strip, strip_idem x]
  | .list xs _ _ _ => by simp only [AV.strip, stripL_idem xs]
  | .iface _ x => by simp only [AV.strip, strip_idem x]
  | .agg xs => by simp only [AV.strip, stripL_idem xs]
  | .tuple xs => by simp only [AV.strip, stripL_idem xs]
theorem stripL_idem : ∀ xs : List AV, stripL (stripL xs) = stripL xs
  | [] => rfl
  | x :: xs => by simp only [stripL, strip_idem x, stripL_idem xs]
end
theorem run_of_body {C : Cfg} {f : FuncId} {fn : Func} {c : Code} {args : List AV} {v : AV} (hm : C.mode f ≠ .no) (hfn : C.P.funcs[f]? = some fn) (hb : fn.body = some c)
    (h : Ev C 0 c ⟨args ++ List.replicate (fn.ntmps - args.length) .undef, [], false⟩ (Done C fn v)) (ha : C.arrOf f = C.arr := by rfl) : ∃ k v0 h d, evalF C k f args [] = some (v0, h, d) ∧ v0.strip = v := by
  obtain ⟨n, x, st, h1, h2⟩ := h
  refine ⟨n + 1, ?_⟩
  rw [evalF, if_neg hm, Cfg.on_eq ha]
  simp only [hfn, hb, List.length_nil, h1]
  cases x with
  | exit i => exact h2.elim
  | normal => obtain ⟨v0, hr, hs⟩ := h2; simp only [hr]; split <;> exact ⟨_, _, _, rfl, hs⟩
  | ret => obtain ⟨v0, hr, hs⟩ := h2; simp only [hr]; split <;> exact ⟨_, _, _, rfl, hs⟩

/-- A call from a memory without a small heap. -/
theorem res_of_run {C1 : Cfg} (hC : CfgOk C1) (hB : BodiesOk C1) (hmix : C1.P.follows .mixedOrders = true) {g : FuncId} (hm : C1.mode g ≠ .no) {vs : List AV} {r v0 : AV} {k : Nat} {h' : Heap} {d' : Bool} (he : evalF C1 k g vs [] = some (v0, h', d')) (hs : v0.strip = r) (hr : r.clean 0 = true)
    (hcl : cleanL 0 vs = true) {m : M} {w : World} {us : Array Value} (hi : Inv m [] w) (hv : VRelL m vs us.toList) : Res C1.P ((callFunc g us).run C1.P w) (fun u w' => ∃ m', Step w.heap.size m [] w m' [] w' ∧ VRel m' r u) := by
  rw [callFunc_enter hC hm]
  simp only [Res]
  have hb : VRelL m.bare vs us.toList := by rw [← bare_upto]; exact VRelL.upto _ _ hcl hv
  obtain ⟨k1, _⟩ := evalF_ok hC hB hmix k g vs [] _ _ _ he m.bare w us hi.bare hb
  refine k1.mono ?_
  rintro e w'' ⟨u, rfl, m1, s, hu⟩
  subst hs
  exact ⟨u, rfl, _, Step.pure hi s, VRel.mono (M.bare_le m1.F m) _ _ (VRel.bare hr hu)⟩

theorem list_or_nil {m : M} {xs : List AV} {nn : Bool} {cap tok : Option Nat} {v : Value} (h : VRel m (.list xs nn cap tok) v) : (xs = [] ∧ VRel m .nils v) ∨ VRel m (.list xs true none none) v := by
  simp only [VRel] at h ⊢
  rcases h with ⟨h1, _, _, _, h2⟩ | ⟨a, cap', cvs, s, h1, h2, h3, h4, h5, h6, h7, h8⟩
  · exact .inl ⟨h1, h2⟩
  · exact .inr (.inr ⟨a, cap', cvs, s, h1, h2, h3, h4, h5, h6, by simp, by simp⟩)

theorem res_of_two {C1 : Cfg} (hC : CfgOk C1) (hB : BodiesOk C1) (hmix : C1.P.follows .mixedOrders = true) {g : FuncId} (hm : C1.mode g ≠ .no) {xs : List AV} {nn : Bool} {cap tok : Option Nat} {r : AV} (hr : r.clean 0 = true) (hcl : cleanL 0 xs = true)
    (h0 : xs = [] → ∃ k v0 h d, evalF C1 k g [.nils] [] = some (v0, h, d) ∧ v0.strip = r) (h1 : ∃ k v0 h d, evalF C1 k g [.list xs true none none] [] = some (v0, h, d) ∧ v0.strip = r)
    {m : M} {w : World} {us : Array Value} (hi : Inv m [] w) (hv : VRelL m [.list xs nn cap tok] us.toList) : Res C1.P ((callFunc g us).run C1.P w) (fun u w' => ∃ m', Step w.heap.size m [] w m' [] w' ∧ VRel m' r u) := by
  simp only [VRelL] at hv
  obtain ⟨v, vs, e, hv, rfl⟩ := hv
  rcases list_or_nil hv with ⟨hx, hv⟩ | hv
  · obtain ⟨k, v0, h, d, he, hs⟩ := h0 hx
    exact res_of_run hC hB hmix hm he hs hr (by simp) hi (by rw [e]; exact .cons hv .nil)
  · obtain ⟨k, v0, h, d, he, hs⟩ := h1
    exact res_of_run hC hB hmix hm he hs hr (by simp [hcl]) hi (by rw [e]; exact .cons hv .nil)

/-- A function of the library's, or a walk by the kit's rules, that leaves all that was there. -/
theorem Step.below {m : M} {w w' : World} (hi : Inv m [] w) (hb : RowKit.Below w.heap.size w w') : Step w.heap.size m [] w m [] w' where
  le := M.le.refl m
  inv := ⟨fun a v e => by have h := hi.f a v e; rw [hb.cell (World.block_lt_of_cell? w a h)]; exact h, hi.fone, fun i cs e => by simp at e, fun i j cs ds c e => by simp at e, fun i n sz e => by simp at e, hi.apart, hi.mu, hi.rho, hi.cur⟩
  size := hb.size
  os := hb.os
  tape := hb.tape
  output := hb.output
  frame := fun c hc _ => hb.block c hc
  touch := fun _ h => .inl h
  fnew := fun _ _ h => .inl h
theorem res_enter {P : Program} {g : FuncId} {us : Array Value} {w : World} {K : Value → World → Prop} (he : ∀ args w, (callFunc g args).run P w = .ok (.enter g args) w)
    (h : Calls P g us w fun e w' => ∃ v, e = .returned v ∧ K v w') : Res P ((callFunc g us).run P w) K := by
  rw [he]; exact h

theorem vcells_one {v : Value} (h : v.oneCell' = true) : VCells v = [v] := by
  cases v <;> first | rfl | (simp [Value.oneCell'] at h)
/-- .. and hands back a slice over a row of its own. -/
theorem Step.row {m : M} {w w' : World} (hi : Inv m [] w) (hb : RowKit.Below w.heap.size w w') {e : TypeId} {v : Value} {n : Nat} {cells : List Value} (ho : w'.ownsRow w.heap.size e 1 v n cells) (h1 : ∀ c ∈ cells, c.oneCell' = true) {xs : List AV} (hr : VRelL m xs cells) :
    ∃ m', Step w.heap.size m [] w m' [] w' ∧ VRel m' (.L xs) v := by
  have hlen := hr.length
  have hcl : cells.length = n := by simpa using ho.1
  rcases ho.2 with ⟨rfl, hn⟩ | ⟨g, cap, cur, rfl, hbg, hg, hnc, hcm, hcs, htake⟩
  · have hx : xs = [] := List.eq_nil_of_length_eq_zero (by omega)
    exact ⟨m, Step.below hi hb, by simp [VRel, hx]⟩
  · have s1 := Step.below hi hb
    have hcell : ∀ i u, cells[i]? = some u → w'.cell? ⟨g, i, none⟩ = some u := by
      intro i u hu
      rw [← htake, List.getElem?_take] at hu
      split at hu
      · simp only [World.cell?, hg]
        simpa using hu
      · cases hu
    have s2 := Step.fro (B := w.heap.size) s1.inv (fun a => if a.block = g ∧ a.spot = none then cells[a.off]? else none)
      (fun a u hu => by
        split at hu
        · rename_i hc
          obtain ⟨b, o, sp⟩ := a
          simp only at hc hu
          obtain ⟨rfl, rfl⟩ := hc
          exact hcell o u hu
        · cases hu)
      (fun a u hu => by
        split at hu
        · exact h1 u (List.mem_of_getElem? hu)
        · cases hu)
      (fun a u hu k cs hk => by simp at hk) (fun i n sz a cap hk => by simp at hk)
      (fun a u hu => by
        split at hu
        · rename_i hc; exact .inl (by rw [hc.1]; exact hbg)
        · cases hu)
    refine ⟨_, s1.trans s2, ?_⟩
    simp only [VRel]
    refine .inr ⟨⟨g, 0, none⟩, cap, cells, 1, by rw [← hlen, hcl], fun _ => rfl, by omega, VRelL.mono s2.le _ _ hr, fun c hc => by rw [vcells_one (h1 c hc)]; rfl, ?_, by simp, by simp⟩
    have hfl : cells.flatMap VCells = cells := by
      clear hr hlen hcl htake hcell s2 ho
      induction cells with
      | nil => rfl
      | cons c l ih => rw [List.flatMap_cons, vcells_one (h1 c (by simp)), ih (fun c hc => h1 c (List.mem_cons_of_mem _ hc))]; rfl
    rw [hfl]
    intro i u hu
    simp only [Nat.zero_add]
    cases hF : m.F ⟨g, i, none⟩ with
    | none => simpa using hu
    | some u' =>
      have e1 := s1.inv.f _ _ hF
      rw [hcell i u hu] at e1
      simpa using e1.symm

/-- A configuration without contracts whose functions the kernel has looked through. -/
def fnsOk (C : Cfg) (l : List Nat) : Bool := l.all fun f => match C.P.funcs[f]? with
  | some fn => (match fn.body with | some c => drawsOk (C.on f) c | none => false) && decide (fn.name ≠ "runtime.NumGoroutine")
  | none => false
theorem fnsOk_at {C : Cfg} {l : List Nat} (h : fnsOk C l = true) {f : Nat} (hf : f ∈ l) : ∃ fn c, C.P.funcs[f]? = some fn ∧ fn.body = some c ∧ fn.name ≠ "runtime.NumGoroutine" ∧ drawsOk (C.on f) c = true := by
  have := List.all_eq_true.1 h f hf
  split at this
  · rename_i fn hfn
    simp only [Bool.and_eq_true, decide_eq_true_eq] at this
    obtain ⟨h1, h2⟩ := this
    split at h1
    · rename_i c hc; exact ⟨fn, c, hfn, hc, h2, h1⟩
    · cases h1
  · cases this
theorem bodiesOk_of {C : Cfg} {l : List Nat} (h : fnsOk C l = true) (hl : ∀ f, C.mode f ≠ .no → f ∈ l) : BodiesOk C := by
  intro f fn c hm hfn hc
  obtain ⟨fn', c', e1, e2, _, e3⟩ := fnsOk_at h (hl f hm)
  rw [hfn] at e1
  cases e1
  rw [hc] at e2
  cases e2
  exact e3
theorem hprimSpec_none {C : Cfg} (h : ∀ g, C.hprim g = none) : HPrimSpec C := fun g p hp => by rw [h g] at hp; cases hp
theorem cfgOk_of {C : Cfg} {l : List Nat} (hp : PrimSpec C) (h : fnsOk C l = true) (hl : ∀ f, C.mode f ≠ .no → f ∈ l) (hh : HPrimSpec C := by exact hprimSpec_none (fun _ => rfl)) : CfgOk C :=
  ⟨hp, hh, fun f hm => let ⟨fn, c, e1, e2, e3, _⟩ := fnsOk_at h (hl f hm); ⟨fn, c, e1, e2, e3⟩⟩
theorem primSpec_none {C : Cfg} (h : ∀ g, C.prim g = none) : PrimSpec C := fun g p hp => by rw [h g] at hp; cases hp

end Go.Proofs.Ytpfdfilkhaoibaa.Ev

/-
  Calls of functions that look at, or change, their caller's small heap.
-/
namespace Go.Proofs.Ytpfdfilkhaoibaa.Ev
open Go
set_option linter.unusedVariables false
set_option linter.unusedSimpArgs false

/-- The answer of a function that is not pure: value, heap, whether something of the caller's was written. -/
def RetI (C : Cfg) (f : FuncId) (vs : List AV) (h : Heap) (Q : AV → Heap → Bool → Prop) : Prop :=
  ∃ k v h' d', (∀ d, callF C (evalF C k) f vs h d = some (v, h', d || d')) ∧ Q v h' d'

theorem RetI.mono {C : Cfg} {f : FuncId} {vs : List AV} {h : Heap} {Q Q' : AV → Heap → Bool → Prop} (r : RetI C f vs h Q) (hq : ∀ v h' d', Q v h' d' → Q' v h' d') : RetI C f vs h Q' := by
  obtain ⟨k, v, h', d', e, q⟩ := r
  exact ⟨k, v, h', d', e, hq _ _ _ q⟩

/-- How such a function's body must end. -/
def DoneI (C : Cfg) (fn : Func) (h : Heap) (Q : AV → Heap → Bool → Prop) : Ex → St → Prop
  | .exit _, _ => False
  | _, st => ∃ v, resultsA C.P fn.results.toList st.fr st.h = some v ∧ if (!st.d && v.clean h.length) = true then Q v h false else Q v st.h st.d

theorem RetI.of_bodyA {C : Cfg} {f : FuncId} {fn : Func} {c : Code} {vs : List AV} {h : Heap} {Q : AV → Heap → Bool → Prop} (hh : C.hprim f = none) (hp : C.prim f = none) (hm : C.mode f = .impure) (hfn : C.P.funcs[f]? = some fn) (hb : fn.body = some c)
    (hev : Ev (C.on f) h.length c ⟨vs ++ List.replicate (fn.ntmps - vs.length) .undef, h, false⟩ (DoneI C fn h Q)) : RetI C f vs h Q := by
  obtain ⟨n, x, st, h1, h2⟩ := hev
  rw [evalF_on] at h1
  have hF : ∃ v h' d', evalF C (n + 1) f vs h = some (v, h', d') ∧ Q v h' d' := by
    rw [evalF, if_neg (by rw [hm]; simp)]
    simp only [hfn, hb, h1]
    cases x with
    | exit i => exact h2.elim
    | normal =>
      obtain ⟨v, hr, hs⟩ := h2
      simp only [hr]
      split
      · rename_i hc; rw [if_pos hc] at hs; exact ⟨_, _, _, rfl, hs⟩
      · rename_i hc; rw [if_neg hc] at hs; exact ⟨_, _, _, rfl, hs⟩
    | ret =>
      obtain ⟨v, hr, hs⟩ := h2
      simp only [hr]
      split
      · rename_i hc; rw [if_pos hc] at hs; exact ⟨_, _, _, rfl, hs⟩
      · rename_i hc; rw [if_neg hc] at hs; exact ⟨_, _, _, rfl, hs⟩
  obtain ⟨v, h', d', e1, e2⟩ := hF
  exact ⟨n + 1, v, h', d', fun d => by unfold callF; simp only [hh, hp, hm, e1], e2⟩
theorem RetI.of_body {C : Cfg} {f : FuncId} {fn : Func} {c : Code} {vs : List AV} {h : Heap} {Q : AV → Heap → Bool → Prop} (hp : C.prim f = none) (hm : C.mode f = .impure) (hfn : C.P.funcs[f]? = some fn) (hb : fn.body = some c)
    (hev : Ev C h.length c ⟨vs ++ List.replicate (fn.ntmps - vs.length) .undef, h, false⟩ (DoneI C fn h Q)) (hh : C.hprim f = none := by rfl) (ha : C.arrOf f = C.arr := by rfl) : RetI C f vs h Q :=
  RetI.of_bodyA hh hp hm hfn hb (by rw [Cfg.on_eq ha]; exact hev)

/-- A call of such a function (by name: first, captured are empty; or a function value). -/
theorem EvOps.calli {C : Cfg} {base : Nat} {ops : Array Oper} {o : Oper} {l : List Oper} {st : St} {Q : St → Prop} {Q' : AV → Heap → Bool → Prop} {f : Operand} {g : FuncId} {first captured : List AV} {args : Array Operand} {ts : Array TypeId} {vs : List AV}
    (hop : o.op = .call ⟨.value f, args, ts⟩) (hf : evalOperand st.fr f = some (.func (.func g) first captured)) (hw : Region.wanted o (yieldedA ops st.fr) = true) (hargs : args.toList.mapM (evalOperand st.fr) = some vs) (hr : RetI C g (first ++ vs ++ captured) st.h Q')
    (hq : ∀ v h' d', Q' v h' d' → EvOps C base ops l (St.put ⟨st.fr, h', st.d || d'⟩ o.dst v) Q) : EvOps C base ops (o :: l) st Q := by
  obtain ⟨k, v, h', d', hk, hv⟩ := hr
  obtain ⟨n, s, h1, h2⟩ := hq v h' d' hv
  refine ⟨max n k, s, ?_, h2⟩
  have hstep : stepOp C (evalF C (max n k)) base ops o st = some (St.put ⟨st.fr, h', st.d || d'⟩ o.dst v) := by
    have hc := callF_mono (C := C) (evalF_mono (Nat.le_max_right n k)) (hk st.d)
    unfold stepOp
    rw [if_pos hw]
    unfold evalOp
    simp only [hop, hargs, hf, hc]
  rw [evalOps, hstep]
  exact evalOps_mono (evalF_mono (Nat.le_max_left _ _)) h1

theorem appendA_growB {P : Program} {base : Nat} {t u e : TypeId} {n by_ : Nat} {z : AV} {ud : TypeDesc} (ht : P.underlying t = some (.slice e)) (hu : P.underlying u = some ud) (hud : appendable ud = true) (hn : tySize P e = some n) (hb : tyBytes P e = some by_) (hz : tyZero P e = some z) (hzn : z.cells.length = n)
    {h : Heap} {x y : AV} {xs ys : List AV} (g : Grow n h x xs) (hx : headOk n xs = true) (hy : elemsA h n y = some ys) (hlim : (xs.length + ys.length) * by_ ≤ 35184372088832 ∧ xs.length + ys.length ≤ 35184372088832) (hbase : base ≤ h.length) :
    ∃ x' h' wr, appendA P false [t, u] h x y = some (x', h', wr) ∧ Grow n h' x' (xs ++ ys) ∧ Stays x h x' h' ∧ (ys ≠ [] → wrDirty base wr = true ∨ ∃ i, tokOf x' = some i ∧ base ≤ i) := by
  unfold appendA
  simp only [ht, hu, hn, hb, hz, newsA_of hud hy, hzn]
  simp only [ne_eq, not_true, if_false, reduceCtorEq]
  rcases g with ⟨rfl, rfl⟩ | ⟨τ, rfl, hτ⟩ | ⟨nn, rfl⟩
  · simp only [List.length_nil, Nat.zero_add, List.nil_append] at hlim ⊢
    by_cases he : ys.isEmpty = true
    · rw [if_pos he]
      have : ys = [] := List.isEmpty_iff.1 he
      subst this
      exact ⟨_, _, _, rfl, Grow.nils _ _, ⟨Nat.le_refl _, fun _ _ _ => rfl, .inl rfl⟩, fun h => (h rfl).elim⟩
    · rw [if_neg he, if_pos hlim]
      refine ⟨_, _, _, rfl, .inr (.inl ⟨_, rfl, by simp⟩), ⟨by simp, fun i hi _ => by rw [List.getElem?_append_left hi], .inr fun i hi => ?_⟩, fun _ => .inr ⟨_, rfl, hbase⟩⟩
      simp only [tokOf, Option.some.injEq] at hi
      omega
  · by_cases he : ys.isEmpty = true
    · simp only [if_pos he]
      have : ys = [] := List.isEmpty_iff.1 he
      subst this
      exact ⟨_, _, _, rfl, .inr (.inl ⟨τ, by simp, by simpa using hτ⟩), ⟨Nat.le_refl _, fun _ _ _ => rfl, .inl rfl⟩, fun h => (h rfl).elim⟩
    · simp only [if_neg he, hlim, and_self, not_true, if_false, hx, hτ, reduceCtorEq]
      refine ⟨_, _, _, rfl, .inr (.inl ⟨τ, rfl, ?_⟩), ⟨by simp, fun i hi hne => ?_, .inl rfl⟩, fun _ => ?_⟩
      · rw [List.getElem?_set_self (List.getElem?_eq_some_iff.1 hτ).1, List.length_append]
      · rw [List.getElem?_set_ne]
        intro e
        exact hne (by simp [tokOf, e])
      · by_cases hb : τ < base
        · left; simp [wrDirty, hb]
        · right; exact ⟨τ, rfl, by omega⟩
  · by_cases he : ys.isEmpty = true
    · simp only [if_pos he]
      have : ys = [] := List.isEmpty_iff.1 he
      subst this
      exact ⟨_, _, _, rfl, .inr (.inr ⟨nn, by simp⟩), ⟨Nat.le_refl _, fun _ _ _ => rfl, .inl rfl⟩, fun h => (h rfl).elim⟩
    · simp only [if_neg he, hlim, and_self, not_true, if_false, hx, if_true, reduceCtorEq]
      refine ⟨_, _, _, rfl, .inr (.inl ⟨_, rfl, by simp⟩), ⟨by simp, fun i hi _ => by rw [List.getElem?_append_left hi], .inr fun i hi => ?_⟩, fun _ => .inr ⟨_, rfl, hbase⟩⟩
      simp only [tokOf, Option.some.injEq] at hi
      omega

/-- append, of a list that grows, over any base. -/
theorem EvOps.appendB {C : Cfg} {base : Nat} {ops : Array Oper} {o : Oper} {l : List Oper} {st : St} {Q : St → Prop} {args : Array Operand} {ts : Array TypeId} {t u e : TypeId} {n by_ : Nat} {z : AV} {ud : TypeDesc} {x y : AV} {xs ys : List AV}
    (hop : o.op = .call ⟨.builtin .append, args, ts⟩) (hts : ts = #[t, u]) (hw : Region.wanted o (yieldedA ops st.fr) = true) (hargs : args.toList.mapM (evalOperand st.fr) = some [x, y])
    (ht : C.P.underlying t = some (.slice e)) (hu : C.P.underlying u = some ud) (hud : appendable ud = true) (hn : tySize C.P e = some n) (hb : tyBytes C.P e = some by_) (hz : tyZero C.P e = some z) (hzn : z.cells.length = n)
    (g : Grow n st.h x xs) (hx : headOk n xs = true) (hy : elemsA st.h n y = some ys) (hlim : (xs.length + ys.length) * by_ ≤ 35184372088832 ∧ xs.length + ys.length ≤ 35184372088832) (hbase : base ≤ st.h.length)
    (hq : ∀ x' h' d', Grow n h' x' (xs ++ ys) → Stays x st.h x' h' → (ys ≠ [] → d' = true ∨ ∃ i, tokOf x' = some i ∧ base ≤ i) → EvOps C base ops l (St.put ⟨st.fr, h', st.d || d'⟩ o.dst x') Q) (hst : stripL (xs ++ ys) = xs ++ ys := by simp) (harr : C.arr = false := by rfl) : EvOps C base ops (o :: l) st Q := by
  obtain ⟨x', h', wr, e1, e2, e3, e4⟩ := appendA_growB (base := base) ht hu hud hn hb hz hzn g hx hy hlim hbase
  have e2 := e2.stripE
  rw [hst] at e2
  have e3 := e3.stripE
  rw [← tokOf_stripE] at e4
  refine EvOps.one (st' := St.put ⟨st.fr, h', st.d || wrDirty base wr⟩ o.dst (stripE x')) (fun call => ?_) (hq _ h' _ e2 e3 e4)
  subst hts
  have : evalOp C call base o (evalOperand st.fr) st.h st.d = some (stripE x', h', st.d || wrDirty base wr) := by
    unfold evalOp
    simp only [hop, hargs, harr, e1, Option.map_some]
  unfold stepOp
  rw [if_pos hw]
  simp only [this]
theorem not_clean {x : AV} {n i : Nat} (h : tokOf x = some i) (hi : n ≤ i) : x.clean n = false := by
  cases x <;> simp only [tokOf, reduceCtorEq] at h
  subst h
  simp [AV.clean, hi]
@[simp] theorem heap_last (h : Heap) (x : AO) : (h ++ [x])[h.length]? = some x := by simp
theorem EvOps.mono {C : Cfg} {base : Nat} {ops : Array Oper} {l : List Oper} {st : St} {Q Q' : St → Prop} (h : EvOps C base ops l st Q) (hq : ∀ s, Q s → Q' s) : EvOps C base ops l st Q' := by
  obtain ⟨n, s, h1, h2⟩ := h
  exact ⟨n, s, h1, hq s h2⟩
/-- The first k operations, and what is kept of them. -/
theorem EvOps.mid (k : Nat) {C : Cfg} {base : Nat} {ops : Array Oper} {l : List Oper} {st : St} {Q : St → Prop} (K : St → Prop) (h1 : EvOps C base ops (l.take k) st K) (h2 : ∀ s, K s → EvOps C base ops (l.drop k) s Q) : EvOps C base ops l st Q :=
  EvOps.take k (h1.mono h2)
/-- A piece of code, and what is kept of it. -/
theorem Ev.mid {C : Cfg} {base : Nat} {a b : Code} {st : St} {Q : Ex → St → Prop} (K : St → Prop) (h1 : Ev C base a st (onNormal K Q)) (h2 : ∀ s, K s → Ev C base b s Q) : Ev C base (a.seq b) st Q :=
  Ev.seq (h1.mono fun x s h => by cases x <;> first | exact h2 s h | exact h)
theorem Grow.push {n : Nat} {h : Heap} {x : AV} {xs : List AV} (g : Grow n h x xs) (o : AO) : Grow n (h ++ [o]) x xs := by
  rcases g with g | ⟨τ, rfl, e⟩ | g
  · exact .inl g
  · refine .inr (.inl ⟨τ, rfl, ?_⟩)
    rw [List.getElem?_append_left (List.getElem?_eq_some_iff.1 e).1]
    exact e
  · exact .inr (.inr g)
theorem Grow.set {n : Nat} {h : Heap} {x : AV} {xs : List AV} (g : Grow n h x xs) (q : Nat) (y : AO) (hne : ∀ i, tokOf x = some i → i ≠ q) : Grow n (h.set q y) x xs := by
  rcases g with g | ⟨τ, rfl, e⟩ | g
  · exact .inl g
  · refine .inr (.inl ⟨τ, rfl, ?_⟩)
    rw [List.getElem?_set_ne (fun h => hne τ rfl h.symm)]
    exact e
  · exact .inr (.inr g)
theorem Grow.tok_lt {n : Nat} {h : Heap} {x : AV} {xs : List AV} (g : Grow n h x xs) {i : Nat} (e : tokOf x = some i) : i < h.length := by
  rcases g with ⟨rfl, _⟩ | ⟨τ, rfl, e'⟩ | ⟨nn, rfl⟩
  · simp [tokOf] at e
  · simp only [tokOf, Option.some.injEq] at e
    subst e
    exact (List.getElem?_eq_some_iff.1 e').1
  · simp [tokOf] at e
theorem Stays.refl (x : AV) (h : Heap) : Stays x h x h := ⟨Nat.le_refl _, fun _ _ _ => rfl, .inl rfl⟩
theorem Stays.trans {x x' x'' : AV} {h h' h'' : Heap} (s : Stays x h x' h') (t : Stays x' h' x'' h'') : Stays x h x'' h'' where
  len := Nat.le_trans s.len t.len
  old := fun i hi hne => by
    rw [t.old i (Nat.lt_of_lt_of_le hi s.len) ?_, s.old i hi hne]
    intro e
    rcases s.tok with q | q
    · exact hne (by rw [← q]; exact e)
    · have := q i e; omega
  tok := by
    rcases t.tok with q | q
    · rcases s.tok with p | p
      · exact .inl (q.trans p)
      · exact .inr fun i e => p i (by rw [← q]; exact e)
    · exact .inr fun i e => Nat.le_trans s.len (q i e)
theorem Stays.push (x : AV) (h : Heap) (o : AO) : Stays x h x (h ++ [o]) := ⟨by simp, fun i hi _ => by rw [List.getElem?_append_left hi], .inl rfl⟩
theorem loud {d : Bool} {x : AV} {n : Nat} (h : d = true ∨ ∃ i, tokOf x = some i ∧ n ≤ i) : (!d && x.clean n) = false := by
  rcases h with rfl | ⟨i, e, hi⟩
  · rfl
  · rw [not_clean e hi, Bool.and_false]
@[simp] theorem heap_set_last (h : Heap) (x y : AO) : (h ++ [x]).set h.length y = h ++ [y] := by
  rw [List.set_append_right _ _ (Nat.le_refl _)]; simp
theorem heap_old {h : Heap} {x : AO} {i : Nat} {y : AO} (e : h[i]? = some y) : (h ++ [x])[i]? = some y := by
  rw [List.getElem?_append_left (List.getElem?_eq_some_iff.1 e).1]; exact e
theorem loud_if {d : Bool} {x : AV} {n : Nat} {p q : Prop} (h : d = true ∨ ∃ i, tokOf x = some i ∧ n ≤ i) (hq : q) : if (!d && x.clean n) = true then p else q := by
  rw [if_neg (by rw [loud h]; simp)]; exact hq
theorem quiet_if {x : AV} {n : Nat} {p q : Prop} (h : x.clean n = true) (hp : p) : if (!false && x.clean n) = true then p else q := by
  rw [if_pos (by rw [h]; rfl)]; exact hp
end Go.Proofs.Ytpfdfilkhaoibaa.Ev

/-
  Rules for texts that a program prints (gen/lift.py): objects, lists that grow, joins.
-/
namespace Go.Proofs.Ytpfdfilkhaoibaa.Ev
open Go
set_option linter.unusedVariables false
set_option linter.unusedSimpArgs false

/-- A new object. -/
structure Ext (h h' : Heap) (b : Nat) (cs : List AV) : Prop where
  get : h'[b]? = some (.cells cs)
  old : ∀ (i : Nat) (x : AO), h[i]? = some x → h'[i]? = some x
  ne : ∀ (i : Nat) (x : AO), h[i]? = some x → i ≠ b
  fresh : h.length ≤ b
  len : h.length ≤ h'.length
/-- An object was written. -/
structure Upd (h h' : Heap) (b : Nat) (cs : List AV) : Prop where
  get : h'[b]? = some (.cells cs)
  old : ∀ i, i ≠ b → h'[i]? = h[i]?
  len : h'.length = h.length
theorem Ext.mk' (h : Heap) (cs : List AV) : Ext h (h ++ [.cells cs]) h.length cs where
  get := by simp
  old := fun i x e => heap_old e
  ne := fun i x e => by have := (List.getElem?_eq_some_iff.1 e).1; omega
  fresh := Nat.le_refl _
  len := by simp
theorem Upd.mk' {h : Heap} {b : Nat} {x : AO} (e : h[b]? = some x) (cs : List AV) : Upd h (h.set b (.cells cs)) b cs where
  get := by rw [List.getElem?_set_self (List.getElem?_eq_some_iff.1 e).1]
  old := fun i hi => by rw [List.getElem?_set_ne (Ne.symm hi)]
  len := by simp
theorem Upd.cells {h h' : Heap} {b j : Nat} {cs : List AV} {x : AO} (u : Upd h h' b cs) (e : h[j]? = some x) (hne : j ≠ b) : h'[j]? = some x := by rw [u.old j hne]; exact e
theorem Grow.ext {n : Nat} {h h' : Heap} {x : AV} {xs : List AV} (g : Grow n h x xs) (e : ∀ (i : Nat) (x : AO), h[i]? = some x → h'[i]? = some x) : Grow n h' x xs := by
  rcases g with g | ⟨τ, rfl, k⟩ | g
  · exact .inl g
  · exact .inr (.inl ⟨τ, rfl, e _ _ k⟩)
  · exact .inr (.inr g)
theorem Grow.upd {n : Nat} {h h' : Heap} {x : AV} {xs : List AV} {b : Nat} {c cs : List AV} (g : Grow n h x xs) (hb : h[b]? = some (.cells c)) (u : Upd h h' b cs) : Grow n h' x xs := by
  rcases g with g | ⟨τ, rfl, k⟩ | g
  · exact .inl g
  · refine .inr (.inl ⟨τ, rfl, ?_⟩)
    rw [u.old τ ?_]
    · exact k
    · intro e; subst e; rw [hb] at k; cases k
  · exact .inr (.inr g)
theorem Grow.tok_cells {n : Nat} {h : Heap} {x : AV} {xs c : List AV} {b : Nat} (g : Grow n h x xs) (hb : h[b]? = some (.cells c)) : tokOf x ≠ some b := by
  rcases g with ⟨rfl, _⟩ | ⟨τ, rfl, k⟩ | ⟨nn, rfl⟩
  · simp [tokOf]
  · simp only [tokOf, ne_eq, Option.some.injEq]
    intro e; subst e; rw [hb] at k; cases k
  · simp [tokOf]
theorem Stays.cells {n : Nat} {h h' : Heap} {x x' : AV} {xs c : List AV} {b : Nat} (s : Stays x h x' h') (g : Grow n h x xs) (hb : h[b]? = some (.cells c)) : h'[b]? = some (.cells c) := by
  rw [s.old b (List.getElem?_eq_some_iff.1 hb).1 (g.tok_cells hb)]; exact hb
theorem Grow.cases {n : Nat} {h : Heap} {x : AV} {xs : List AV} (g : Grow n h x xs) : (x = .nils ∧ xs = []) ∨ ∃ nn c τ, x = .list xs nn c τ := by
  rcases g with g | ⟨τ, rfl, _⟩ | ⟨nn, rfl⟩
  · exact .inl g
  · exact .inr ⟨_, _, _, rfl⟩
  · exact .inr ⟨_, _, _, rfl⟩
theorem Grow.one1 {n : Nat} {h : Heap} {x : AV} {xs : List AV} (g : Grow n h x xs) : x.one = true := by
  rcases g with ⟨rfl, rfl⟩ | ⟨τ, rfl, _⟩ | ⟨nn, rfl⟩ <;> rfl
theorem Grow.cells1 {n : Nat} {h : Heap} {x : AV} {xs : List AV} (g : Grow n h x xs) : x.cells = [x] := by
  rcases g with ⟨rfl, rfl⟩ | ⟨τ, rfl, _⟩ | ⟨nn, rfl⟩ <;> rfl
/-- Each element has n cells. -/
def allOk (n : Nat) (l : List AV) : Bool := l.all fun x => x.cells.length == n
@[simp] theorem allOk_nil (n : Nat) : allOk n [] = true := rfl
@[simp] theorem allOk_cons (n : Nat) (x : AV) (l : List AV) : allOk n (x :: l) = (x.cells.length == n && allOk n l) := rfl
@[simp] theorem allOk_append (n : Nat) (a b : List AV) : allOk n (a ++ b) = (allOk n a && allOk n b) := by simp [allOk]
theorem allOk_mem {n : Nat} {l k : List AV} (h : allOk n l = true) (hk : ∀ x ∈ k, x ∈ l) : allOk n k = true := by
  simp only [allOk, List.all_eq_true] at h ⊢
  exact fun x hx => h x (hk x hx)
@[simp] theorem allOk_drop {n : Nat} {l : List AV} (k : Nat) (h : allOk n l = true) : allOk n (l.drop k) = true := allOk_mem h fun x hx => List.mem_of_mem_drop hx
@[simp] theorem allOk_tail {n : Nat} {l : List AV} (h : allOk n l = true) : allOk n l.tail = true := allOk_mem h fun x hx => List.mem_of_mem_tail hx
@[simp] theorem allOk_take {n : Nat} {l : List AV} (k : Nat) (h : allOk n l = true) : allOk n (l.take k) = true := allOk_mem h fun x hx => List.mem_of_mem_take hx
@[simp] theorem headOk_all {n : Nat} {l : List AV} (h : allOk n l = true) : headOk n l = true := by
  cases l with
  | nil => rfl
  | cons x l => simp only [allOk_cons, Bool.and_eq_true] at h; exact h.1
theorem allOk_map {α : Type} (n : Nat) (f : α → AV) (h : ∀ a, (f a).cells.length = n) (l : List α) : allOk n (l.map f) = true := by
  simp only [allOk, List.all_map, List.all_eq_true, Function.comp, beq_iff_eq]
  exact fun x _ => h x
@[simp] theorem allOk_strs (l : List (List UInt8)) : allOk 1 (l.map AV.str) = true := allOk_map 1 AV.str (fun _ => rfl) l
@[simp] theorem allOk_bytes (l : List UInt8) : allOk 1 (ofBytes l) = true := allOk_map 1 (fun b : UInt8 => AV.int .u8 (b.toNat : Int)) (fun _ => rfl) l
@[simp] theorem allOk_strss (l : List (List (List UInt8))) : allOk 1 (l.map strs) = true := allOk_map 1 strs (fun _ => rfl) l
@[simp] theorem allOk_ints (k : IntKind) (l : List Int) : allOk 1 (l.map (AV.int k)) = true := allOk_map 1 (AV.int k) (fun _ => rfl) l
theorem stripL_mapd : ∀ (l : List AV), stripL l = l.map AV.strip
  | [] => by simp
  | x :: l => by simp [stripL_mapd l]
@[simp] theorem stripL_drop (l : List AV) (k : Nat) : stripL (l.drop k) = (stripL l).drop k := by rw [stripL_mapd, stripL_mapd, List.map_drop]
@[simp] theorem stripL_take (l : List AV) (k : Nat) : stripL (l.take k) = (stripL l).take k := by rw [stripL_mapd, stripL_mapd, List.map_take]
@[simp] theorem stripL_tail (l : List AV) : stripL l.tail = (stripL l).tail := by cases l <;> simp
theorem cleanL_all (n : Nat) : ∀ (l : List AV), cleanL n l = l.all (AV.clean n)
  | [] => by simp
  | x :: l => by simp [cleanL_all n l]
@[simp] theorem cleanL_append (n : Nat) (a b : List AV) : cleanL n (a ++ b) = (cleanL n a && cleanL n b) := by simp [cleanL_all]
theorem cleanL_mem {n : Nat} {l k : List AV} (h : cleanL n l = true) (hk : ∀ x ∈ k, x ∈ l) : cleanL n k = true := by
  rw [cleanL_all, List.all_eq_true] at h ⊢
  exact fun x hx => h x (hk x hx)
@[simp] theorem cleanL_drop {n : Nat} {l : List AV} (k : Nat) (h : cleanL n l = true) : cleanL n (l.drop k) = true := cleanL_mem h fun x hx => List.mem_of_mem_drop hx
@[simp] theorem cleanL_tail {n : Nat} {l : List AV} (h : cleanL n l = true) : cleanL n l.tail = true := cleanL_mem h fun x hx => List.mem_of_mem_tail hx
@[simp] theorem cleanL_take {n : Nat} {l : List AV} (k : Nat) (h : cleanL n l = true) : cleanL n (l.take k) = true := cleanL_mem h fun x hx => List.mem_of_mem_take hx
@[simp] theorem stripL_ints (k : IntKind) (l : List Int) : stripL (l.map (AV.int k)) = l.map (AV.int k) := stripL_map _ (fun n => strip_int k n) l
@[simp] theorem cleanL_ints (n : Nat) (k : IntKind) (l : List Int) : cleanL n (l.map (AV.int k)) = true := cleanL_map n _ (fun i => clean_int n k i) l
@[simp] theorem ofBytes_getElem (s : List UInt8) (i : Nat) (h : i < (ofBytes s).length) : (ofBytes s)[i]'h = .int .u8 ((s[i]'(by simpa [ofBytes] using h)).toNat : Int) := by simp [ofBytes]
theorem ofBytes_drop (s : List UInt8) (k : Nat) : ofBytes (s.drop k) = (ofBytes s).drop k := by simp [ofBytes]
theorem ofBytes_take (s : List UInt8) (k : Nat) : ofBytes (s.take k) = (ofBytes s).take k := by simp [ofBytes]
@[simp] theorem take_len_drop {α : Type} (l : List α) (n : Nat) : (l.drop n).take (l.length - n) = l.drop n := List.take_of_length_le (by simp)
@[simp] theorem drop_ofBytes (s : List UInt8) (k : Nat) : (ofBytes s).drop k = ofBytes (s.drop k) := (ofBytes_drop s k).symm
@[simp] theorem take_ofBytes (s : List UInt8) (k : Nat) : (ofBytes s).take k = ofBytes (s.take k) := (ofBytes_take s k).symm
/-- A list that is only read. -/
def LV (x : AV) (xs : List AV) : Prop := (x = .nils ∧ xs = []) ∨ ∃ nn c τ, x = .list xs nn c τ
theorem Grow.lv {n : Nat} {h : Heap} {x : AV} {xs : List AV} (g : Grow n h x xs) : LV x xs := g.cases
theorem LV.strip {x : AV} {xs : List AV} (g : LV x xs) : x.strip = .L (stripL xs) := by
  rcases g with ⟨rfl, rfl⟩ | ⟨nn, c, τ, rfl⟩ <;> simp
theorem LV.one {x : AV} {xs : List AV} (g : LV x xs) : x.one = true := by
  rcases g with ⟨rfl, rfl⟩ | ⟨nn, c, τ, rfl⟩ <;> rfl
theorem LV.cells {x : AV} {xs : List AV} (g : LV x xs) : x.cells = [x] := by
  rcases g with ⟨rfl, rfl⟩ | ⟨nn, c, τ, rfl⟩ <;> rfl

theorem EvOps.gen {C : Cfg} {base : Nat} {ops : Array Oper} {l : List Oper} {fr : List AV} {h : Heap} {d : Bool} {Q : St → Prop} (K : List AV → Prop) (hk : K fr) (hq : ∀ fr, K fr → EvOps C base ops l ⟨fr, h, d⟩ Q) : EvOps C base ops l ⟨fr, h, d⟩ Q := hq fr hk
theorem EvOps.done {C : Cfg} {base : Nat} {ops : Array Oper} {st : St} {Q : St → Prop} (h : Q st) : EvOps C base ops [] st Q := EvOps.nil h

theorem EvOps.boxR {C : Cfg} {base : Nat} {ops : Array Oper} {o : Oper} {l : List Oper} {fr : List AV} {h : Heap} {d : Bool} {Q : St → Prop} {t : TypeId} {x : Operand} {v : AV} {cs : List AV}
    (hop : o.op = .box t x) (hw : Region.wanted o (yieldedA ops fr) = true) (hx : evalOperand fr x = some v) (hcs : v.cells = cs) (h1 : cs.all AV.one = true)
    (hq : ∀ h' b, Ext h h' b cs → EvOps C base ops l (St.put ⟨fr, h', d⟩ o.dst (.ptr b 0)) Q) : EvOps C base ops (o :: l) ⟨fr, h, d⟩ Q := by
  subst hcs
  refine EvOps.one (st' := St.put ⟨fr, h ++ [.cells v.cells], d⟩ o.dst (.ptr h.length 0)) (fun call => ?_) (hq _ _ (Ext.mk' h v.cells))
  unfold stepOp
  rw [if_pos hw]
  unfold evalOp
  simp only [hop, hx, h1, if_true]
theorem EvOps.allocR {C : Cfg} {base : Nat} {ops : Array Oper} {o : Oper} {l : List Oper} {fr : List AV} {h : Heap} {d : Bool} {Q : St → Prop} {t : TypeId} {v : AV} {cs : List AV}
    (hop : o.op = .alloc t) (hw : Region.wanted o (yieldedA ops fr) = true) (hx : tyZero C.P t = some v) (hcs : v.cells = cs) (h1 : cs.all AV.one = true)
    (hq : ∀ h' b, Ext h h' b cs → EvOps C base ops l (St.put ⟨fr, h', d⟩ o.dst (.ptr b 0)) Q) : EvOps C base ops (o :: l) ⟨fr, h, d⟩ Q := by
  subst hcs
  refine EvOps.one (st' := St.put ⟨fr, h ++ [.cells v.cells], d⟩ o.dst (.ptr h.length 0)) (fun call => ?_) (hq _ _ (Ext.mk' h v.cells))
  unfold stepOp
  rw [if_pos hw]
  unfold evalOp
  simp only [hop, hx, h1, if_true]
theorem EvOps.storeR {C : Cfg} {ops : Array Oper} {o : Oper} {l : List Oper} {fr : List AV} {h : Heap} {d : Bool} {Q : St → Prop} {t : TypeId} {a x : Operand} {v : AV} {b off : Nat} {cs cs' vs : List AV}
    (hop : o.op = .store t a x) (hw : Region.wanted o (yieldedA ops fr) = true) (ha : evalOperand fr a = some (.ptr b off)) (hx : evalOperand fr x = some v) (hb : h[b]? = some (.cells cs)) (hvs : v.cells = vs)
    (hs : tySize C.P t = some vs.length) (hle : off + vs.length ≤ cs.length) (h1 : vs.all AV.one = true) (hnew : splice cs off vs = cs')
    (hq : ∀ h', Upd h h' b cs' → EvOps C 0 ops l (St.put ⟨fr, h', d⟩ o.dst .undef) Q) : EvOps C 0 ops (o :: l) ⟨fr, h, d⟩ Q := by
  subst hnew hvs
  refine EvOps.one (st' := St.put ⟨fr, h.set b (.cells (splice cs off v.cells)), d⟩ o.dst .undef) (fun call => ?_) (hq _ (Upd.mk' hb _))
  unfold stepOp
  rw [if_pos hw]
  unfold evalOp
  simp only [hop, ha, hx]
  unfold storeA
  simp only [hb, hs, beq_self_eq_true, Bool.true_and, decide_eq_true hle, h1, if_true, Option.map_some, Nat.not_lt_zero, decide_false, Bool.or_false]
/-- []byte(s): a list that may grow. -/
theorem EvOps.bytesR {C : Cfg} {base : Nat} {ops : Array Oper} {o : Oper} {l : List Oper} {fr : List AV} {h : Heap} {d : Bool} {Q : St → Prop} {t u e : TypeId} {x : Operand} {s : List UInt8}
    (hop : o.op = .convert t u x) (hw : Region.wanted o (yieldedA ops fr) = true) (hx : evalOperand fr x = some (.str s)) (ht : C.P.underlying t = some .string) (hu : C.P.underlying u = some (.slice e)) (he : C.P.underlying e = some (.int .u8))
    (hq : ∀ h' X, Grow 1 h' X (ofBytes s) → X.strip = .L (ofBytes s) → (∀ (i : Nat) (x : AO), h[i]? = some x → h'[i]? = some x) → (∀ i, tokOf X = some i → h.length ≤ i) → h.length ≤ h'.length → EvOps C base ops l (St.put ⟨fr, h', d⟩ o.dst X) Q) : EvOps C base ops (o :: l) ⟨fr, h, d⟩ Q := by
  refine EvOps.one (st' := St.put ⟨fr, h ++ [.own s.length 1], d⟩ o.dst (.list (ofBytes s) true none (some h.length))) (fun call => ?_) (hq _ _ (.inr (.inl ⟨_, rfl, by simp [ofBytes]⟩)) ?_ (fun i x e => heap_old e) (fun i e => by simp only [tokOf, Option.some.injEq] at e; omega) (by simp))
  · unfold stepOp
    rw [if_pos hw]
    unfold evalOp
    simp only [hop, hx]
    unfold convA
    simp only [ht, hu, he, Option.map_some]
  · simp only [strip_list]
    congr 1
    unfold ofBytes
    exact stripL_map _ (fun b => by simp) s
/-- The element at a place. -/
def getAt {α : Type} (xs : List α) (i : Int) : Option α := if 0 ≤ i then xs[i.toNat]? else none
theorem getAt_some {α : Type} {xs : List α} {i : Int} {x : α} (h : getAt xs i = some x) : 0 ≤ i ∧ i < xs.length ∧ xs[i.toNat]? = some x ∧ ∀ h : i.toNat < xs.length, xs[i.toNat]'h = x := by
  unfold getAt at h
  split at h
  · rename_i h0
    have := (List.getElem?_eq_some_iff.1 h).1
    exact ⟨h0, by omega, h, fun h2 => by rw [List.getElem?_eq_getElem h2] at h; exact Option.some.inj h⟩
  · cases h
theorem bind_some {α β : Type} {x : Option α} {f : α → Option β} {r : β} (h : x.bind f = some r) : ∃ a, x = some a ∧ f a = some r := Option.bind_eq_some_iff.1 h
/-- A check. -/
def chk (p : Prop) [Decidable p] : Option Unit := if p then some () else none
theorem chk_some {p : Prop} [Decidable p] {u : Unit} (h : chk p = some u) : p := by
  unfold chk at h
  split at h
  · assumption
  · cases h
theorem Ev.loop' {C : Cfg} {base : Nat} {c : Code} {Q : Ex → St → Prop} (I : Nat → St → Prop) (m : Nat) (st : St) (h0 : I m st) (step : ∀ m st, I m st → Ev C base c st (onNormal (fun s => ∃ m', m' < m ∧ I m' s) Q)) : Ev C base (.loop c) st Q :=
  Ev.loop I step m st h0
theorem Ev.loopJ {C : Cfg} {base : Nat} {c : Code} {Q : Ex → St → Prop} (J : Ex → St → Prop) (I : Nat → St → Prop) (m : Nat) (st : St) (h0 : I m st) (step : ∀ m st, I m st → Ev C base c st (onNormal (fun s => ∃ m', m' < m ∧ I m' s) J)) (hJ : ∀ x s, J x s → Q x s) : Ev C base (.loop c) st Q :=
  (Ev.loop (Q := J) I step m st h0).mono hJ
theorem Stays.apart {n : Nat} {h h' : Heap} {x x' y : AV} {ys : List AV} (s : Stays x h x' h') (ap : ∀ i, tokOf x = some i → tokOf y ≠ some i) (g : Grow n h y ys) : ∀ i, tokOf x' = some i → tokOf y ≠ some i := by
  intro i e
  rcases s.tok with k | k
  · rw [k] at e; exact ap i e
  · intro e2; have := g.tok_lt e2; have := k i e; omega
theorem ofBytes_nil {s : List UInt8} (h : ofBytes s = []) : s = [] := by cases s <;> simp_all [ofBytes]
/-- What a function that is not pure has left of its caller's heap: W was written. -/
structure Fr (h0 h : Heap) (d : Bool) (W : Nat → Prop) : Prop where
  len : h0.length ≤ h.length
  old : ∀ (i : Nat), i < h0.length → ¬ W i → h[i]? = h0[i]?
  calm : d = false → ∀ (i : Nat), i < h0.length → h[i]? = h0[i]?
theorem Fr.refl (h0 : Heap) (d : Bool) (W : Nat → Prop) : Fr h0 h0 d W := ⟨Nat.le_refl _, fun _ _ _ => rfl, fun _ _ _ => rfl⟩
theorem ext_at {h h' : Heap} (e : ∀ (i : Nat) (x : AO), h[i]? = some x → h'[i]? = some x) {i : Nat} (hi : i < h.length) : h'[i]? = h[i]? := by
  rw [e i h[i] (List.getElem?_eq_getElem hi), List.getElem?_eq_getElem hi]
theorem Fr.ext {h0 h h' : Heap} {d : Bool} {W : Nat → Prop} (f : Fr h0 h d W) (e : ∀ (i : Nat) (x : AO), h[i]? = some x → h'[i]? = some x) (hl : h.length ≤ h'.length) : Fr h0 h' d W where
  len := Nat.le_trans f.len hl
  old := fun i hi hw => by rw [ext_at e (Nat.lt_of_lt_of_le hi f.len)]; exact f.old i hi hw
  calm := fun hd i hi => by rw [ext_at e (Nat.lt_of_lt_of_le hi f.len)]; exact f.calm hd i hi
theorem Fr.own {h0 h h' : Heap} {d : Bool} {W : Nat → Prop} {b : Nat} {cs : List AV} (f : Fr h0 h d W) (u : Upd h h' b cs) (hb : h0.length ≤ b) : Fr h0 h' d W where
  len := by rw [u.len]; exact f.len
  old := fun i hi hw => by rw [u.old i (by omega)]; exact f.old i hi hw
  calm := fun hd i hi => by rw [u.old i (by omega)]; exact f.calm hd i hi
theorem Fr.par {h0 h h' : Heap} {d : Bool} {W : Nat → Prop} {b : Nat} {cs : List AV} (f : Fr h0 h d W) (u : Upd h h' b cs) (hb : W b) : Fr h0 h' true W where
  len := by rw [u.len]; exact f.len
  old := fun i hi hw => by rw [u.old i (by intro e; subst e; exact hw hb)]; exact f.old i hi hw
  calm := fun hd => by cases hd
theorem Fr.app {h0 h h' : Heap} {d : Bool} {W : Nat → Prop} {x x' : AV} (f : Fr h0 h d W) (s : Stays x h x' h') (ht : ∀ i, tokOf x = some i → h0.length ≤ i) : Fr h0 h' d W where
  len := Nat.le_trans f.len s.len
  old := fun i hi hw => by rw [s.old i (Nat.lt_of_lt_of_le hi f.len) (fun e => by have := ht i e; omega)]; exact f.old i hi hw
  calm := fun hd i hi => by rw [s.old i (Nat.lt_of_lt_of_le hi f.len) (fun e => by have := ht i e; omega)]; exact f.calm hd i hi
/-- .. and behind a call of such a function. -/
theorem Fr.call {h0 h h' : Heap} {d d' : Bool} {W V : Nat → Prop} (f : Fr h0 h d W) (k : Fr h h' d' V) (hv : ∀ i, i < h0.length → V i → W i) : Fr h0 h' (d || d') W where
  len := Nat.le_trans f.len k.len
  old := fun i hi hw => by rw [k.old i (Nat.lt_of_lt_of_le hi f.len) (fun e => hw (hv i hi e))]; exact f.old i hi hw
  calm := fun hd i hi => by
    simp only [Bool.or_eq_false_iff] at hd
    rw [k.calm hd.2 i (Nat.lt_of_lt_of_le hi f.len)]; exact f.calm hd.1 i hi
theorem Fr.cells {h h' : Heap} {d' : Bool} {V : Nat → Prop} (k : Fr h h' d' V) {b : Nat} {x : AO} (e : h[b]? = some x) (hv : ¬ V b) : h'[b]? = some x := by
  rw [k.old b (List.getElem?_eq_some_iff.1 e).1 hv]; exact e
theorem Grow.fr {n : Nat} {h h' : Heap} {x : AV} {xs : List AV} {d' : Bool} {V : Nat → Prop} (g : Grow n h x xs) (k : Fr h h' d' V) (hv : ∀ b, V b → ∃ cs, h[b]? = some (.cells cs)) : Grow n h' x xs := by
  rcases g with g | ⟨τ, rfl, e⟩ | g
  · exact .inl g
  · refine .inr (.inl ⟨τ, rfl, ?_⟩)
    refine k.cells e ?_
    intro hτ
    obtain ⟨cs, h2⟩ := hv τ hτ
    rw [e] at h2; cases h2
  · exact .inr (.inr g)
theorem appendA_wr {P : Program} {mt : Bool} {ts : List TypeId} {h h' : Heap} {x y x' : AV} {wr : Option Nat} (hx : ∀ b o l c n k, x ≠ .slice b o l c n k) (e : appendA P mt ts h x y = some (x', h', wr)) : ∀ b, wr = some b → tokOf x = some b := by
  unfold appendA at e
  repeat' (first | (cases e; done) | (exact (hx _ _ _ _ _ _ rfl).elim) | split at e)
  all_goals
    simp only [Option.some.injEq, Prod.mk.injEq] at e
    obtain ⟨_, _, rfl⟩ := e
    intro b hb
    first | (cases hb; done) | (simp only [Option.some.injEq] at hb; subst hb; rfl)
/-- append, of a list of one's own. -/
theorem EvOps.appendG {C : Cfg} {base : Nat} {ops : Array Oper} {o : Oper} {l : List Oper} {fr : List AV} {h : Heap} {d : Bool} {Q : St → Prop} {args : Array Operand} {ts : Array TypeId} {t u e : TypeId} {n by_ : Nat} {z : AV} {ud : TypeDesc} {x y : AV} {xs ys zs : List AV}
    (hop : o.op = .call ⟨.builtin .append, args, ts⟩) (hts : ts = #[t, u]) (hw : Region.wanted o (yieldedA ops fr) = true) (hargs : args.toList.mapM (evalOperand fr) = some [x, y])
    (ht : C.P.underlying t = some (.slice e)) (hu : C.P.underlying u = some ud) (hud : appendable ud = true) (hn : tySize C.P e = some n) (hb : tyBytes C.P e = some by_) (hz : tyZero C.P e = some z) (hzn : z.cells.length = n)
    (g : Grow n h x xs) (hx : headOk n xs = true) (hy : elemsA h n y = some ys) (hlim : (xs.length + ys.length) * by_ ≤ 35184372088832 ∧ xs.length + ys.length ≤ 35184372088832) (htok : ∀ i, tokOf x = some i → base ≤ i) (hbase : base ≤ h.length) (hst : stripL (xs ++ ys) = zs)
    (hq : ∀ x' h', Grow n h' x' zs → Stays x h x' h' → (∀ i, tokOf x' = some i → base ≤ i) → EvOps C base ops l (St.put ⟨fr, h', d⟩ o.dst x') Q) (harr : C.arr = false := by rfl) : EvOps C base ops (o :: l) ⟨fr, h, d⟩ Q := by
  obtain ⟨x', h', wr, e1, e2, e3, e4⟩ := appendA_grow ht hu hud hn hb hz hzn g hx hy hlim
  have hx0 := e2.stripE
  rw [hst] at hx0
  have hs0 := e3.stripE
  have hwr : wrDirty base wr = false := by
    unfold wrDirty
    split
    · rename_i b
      have := htok b (appendA_wr (fun b o l c n k e => by rcases g.cases with ⟨rfl, _⟩ | ⟨_, _, _, rfl⟩ <;> cases e) e1 b rfl)
      simp; omega
    · rfl
  refine EvOps.one (st' := St.put ⟨fr, h', d⟩ o.dst (stripE x')) (fun call => ?_) (hq _ h' hx0 hs0 fun i hi => ?_)
  · subst hts
    have : evalOp C call base o (evalOperand fr) h d = some (stripE x', h', d) := by
      unfold evalOp
      simp only [hop, hargs, harr, e1, Option.map_some, hwr, Bool.or_false]
    unfold stepOp
    rw [if_pos hw]
    simp only [this]
  · rw [tokOf_stripE] at hi
    rcases e3.tok with k | k
    · rw [k] at hi; exact htok i hi
    · have := k i hi; omega
theorem EvOps.storeG {C : Cfg} {base : Nat} {ops : Array Oper} {o : Oper} {l : List Oper} {fr : List AV} {h : Heap} {d : Bool} {Q : St → Prop} {t : TypeId} {a x : Operand} {v : AV} {b off : Nat} {cs cs' vs : List AV} (d2 : Bool)
    (hop : o.op = .store t a x) (hw : Region.wanted o (yieldedA ops fr) = true) (ha : evalOperand fr a = some (.ptr b off)) (hx : evalOperand fr x = some v) (hb : h[b]? = some (.cells cs)) (hvs : v.cells = vs)
    (hs : tySize C.P t = some vs.length) (hle : off + vs.length ≤ cs.length) (h1 : vs.all AV.one = true) (hnew : splice cs off vs = cs') (hd : (d || decide (b < base)) = d2)
    (hq : ∀ h', Upd h h' b cs' → EvOps C base ops l (St.put ⟨fr, h', d2⟩ o.dst .undef) Q) : EvOps C base ops (o :: l) ⟨fr, h, d⟩ Q := by
  subst hnew hvs hd
  refine EvOps.one (st' := St.put ⟨fr, h.set b (.cells (splice cs off v.cells)), d || decide (b < base)⟩ o.dst .undef) (fun call => ?_) (hq _ (Upd.mk' hb _))
  unfold stepOp
  rw [if_pos hw]
  unfold evalOp
  simp only [hop, ha, hx]
  unfold storeA
  simp only [hb, hs, beq_self_eq_true, Bool.true_and, decide_eq_true hle, h1, if_true, Option.map_some]
theorem EvOps.calliE {C : Cfg} {base : Nat} {ops : Array Oper} {o : Oper} {l : List Oper} {st : St} {Q : St → Prop} {Q' : AV → Heap → Bool → Prop} {f : Operand} {g : FuncId} {first captured : List AV} {args : Array Operand} {ts : Array TypeId} {vs as : List AV}
    (hop : o.op = .call ⟨.value f, args, ts⟩) (hf : evalOperand st.fr f = some (.func (.func g) first captured)) (hw : Region.wanted o (yieldedA ops st.fr) = true) (hargs : args.toList.mapM (evalOperand st.fr) = some vs) (he : first ++ vs ++ captured = as) (hr : RetI C g as st.h Q')
    (hq : ∀ v h' d', Q' v h' d' → EvOps C base ops l (St.put ⟨st.fr, h', st.d || d'⟩ o.dst v) Q) : EvOps C base ops (o :: l) st Q := by
  subst he
  exact EvOps.calli hop hf hw hargs hr hq
theorem quiet_d {d c : Bool} (h : (!d && c) = true) : d = false := by cases d <;> simp_all
theorem own_false {d : Bool} {b base : Nat} (h : base ≤ b) : (d || decide (b < base)) = d := by rw [decide_eq_false (by omega), Bool.or_false]
theorem par_true {d : Bool} {b base : Nat} (h : b < base) : (d || decide (b < base)) = true := by rw [decide_eq_true h, Bool.or_true]
end Go.Proofs.Ytpfdfilkhaoibaa.Ev

/-
  slices.Insert of one element, as the evaluator takes it: its contract, from runs of its own text; slices.overlaps.
-/
namespace Go.Proofs.Ytpfdfilkhaoibaa.Ev
open Go
set_option linter.unusedVariables false
set_option linter.unusedSimpArgs false

/-- slices.overlaps of a list that never changes, or of nothing, and an array. -/
def overlapsA (n : Nat) : List AV → Heap → Option (AV × Heap × Bool)
  | [.list (x :: xs) _ _ _, .slice b o len _ n' _], h =>
    match h[b]? with
    | some (.cells (_ :: _)) => if n' = n ∧ 0 < n ∧ headOk n (x :: xs) = true then some (.bool false, h, false) else none
    | _ => none
  | _, _ => none

/-- slices.Insert(s, i, v). -/
def insertA (n by_ : Nat) : List AV → Heap → Option (AV × Heap × Bool)
  | [.nils, .int .i64 i, .list [v] _ _ _], h =>
    if i = 0 ∧ 0 < n ∧ v.cells.length = n ∧ by_ ≤ 35184372088832 then some (.slice h.length 0 1 1 n false, h ++ [.cells v.cells], false) else none
  | [.list [] _ (some 0) _, .int .i64 i, .list [v] _ _ _], h =>
    if i = 0 ∧ 0 < n ∧ v.cells.length = n ∧ by_ ≤ 35184372088832 then some (.slice h.length 0 1 1 n false, h ++ [.cells v.cells], false) else none
  | [.slice b o len _ n' _, .int .i64 i, .list [v] _ _ _], h =>
    if o = 0 ∧ n' = n ∧ 0 ≤ i ∧ i ≤ len ∧ 0 < n ∧ v.cells.length = n ∧ v.cells.all AV.one = true ∧ (len + 1) * by_ ≤ 35184372088832 ∧ len + 1 ≤ 4294967296 then
      match h[b]? with
      | some (.cells cs) =>
        if len * n ≤ cs.length ∧ (cs.take (len * n)).all AV.one = true then
          some (.slice h.length 0 (len + 1) (len + 1) n false, h.set b .dead ++ [.cells (cs.take (i.toNat * n) ++ v.cells ++ (cs.take (len * n)).drop (i.toNat * n))], true)
        else none
      | _ => none
    else none
  | _, _ => none

theorem mkE_cells {l : List AV} (h : ∀ x ∈ l, x.one = true) : (mkE l).cells = l := by
  match l, h with
  | [], _ => rfl
  | [x], h =>
    have := h x (by simp)
    cases x <;> first | rfl | (simp [AV.one] at this)
  | _ :: _ :: _, _ => rfl
theorem flat_chunk {n : Nat} : ∀ (K : Nat) (cs : List AV), (∀ x ∈ cs, x.one = true) → K * n ≤ cs.length → ∀ k, k ≤ K → ((chunkA n K cs).take k).flatMap AV.cells = cs.take (k * n)
  | 0, cs, _, _, k, hk => by
    obtain rfl : k = 0 := by omega
    simp [chunkA]
  | K + 1, cs, ho, hK, 0, hk => by simp
  | K + 1, cs, ho, hK, k + 1, hk => by
    have hK' : K * n + n ≤ cs.length := by rw [Nat.add_mul] at hK; omega
    simp only [chunkA, List.take_succ_cons, List.flatMap_cons]
    rw [mkE_cells (fun x hx => ho x (List.mem_of_mem_take hx)), flat_chunk K (cs.drop n) (fun x hx => ho x (List.mem_of_mem_drop hx)) (by simp; omega) k (by omega)]
    rw [Nat.add_mul, Nat.one_mul, Nat.add_comm, List.take_add]

theorem appendS_last {h : Heap} {n by_ : Nat} {ys : List AV} {b len : Nat} {cs : List AV} (hy : ys ≠ []) (hn : 0 < n) (h1 : (len + ys.length) * by_ ≤ 35184372088832) (h2 : len + ys.length ≤ 35184372088832) (hb : h[b]? = some (.cells cs)) (hc : len * n ≤ cs.length) :
    appendS h n by_ ys b 0 len len n false = some (.slice h.length 0 (len + ys.length) (len + ys.length) n false, h.set b .dead ++ [.cells (cs.take (len * n) ++ ys.flatMap AV.cells)], some b) := by
  unfold appendS
  have hp : 0 < ys.length := List.length_pos_iff.2 hy
  rw [if_neg (by simpa using hy), if_pos ⟨rfl, hn, h1, h2⟩]
  simp only [hb]
  rw [if_pos (by omega), if_neg (by omega), if_neg (by simp), if_pos trivial]
theorem appendS_out {h : Heap} {n by_ : Nat} {ys : List AV} {b o len cap : Nat} {cs : List AV} (hy : ys ≠ []) (hn : 0 < n) (h1 : (len + ys.length) * by_ ≤ 35184372088832) (h2 : len + ys.length ≤ 35184372088832) (hb : h[b]? = some (.cells cs)) (hc : o + len * n ≤ cs.length) (hr : cap < len + ys.length) :
    appendS h n by_ ys b o len cap n true = some (.slice h.length 0 (len + ys.length) (len + ys.length) n false, h ++ [.cells ((cs.drop o).take (len * n) ++ ys.flatMap AV.cells)], none) := by
  unfold appendS
  rw [if_neg (by simpa using hy), if_pos ⟨rfl, hn, h1, h2⟩]
  simp only [hb]
  rw [if_pos hc, if_neg (by omega), if_pos trivial]
theorem appendS_in {h : Heap} {n by_ : Nat} {ys : List AV} {b o len cap : Nat} {ex : Bool} {cs : List AV} (hy : ys ≠ []) (hn : 0 < n) (h1 : (len + ys.length) * by_ ≤ 35184372088832) (h2 : len + ys.length ≤ 35184372088832) (hb : h[b]? = some (.cells cs)) (hc : o + len * n ≤ cs.length) (hr : len + ys.length ≤ cap) :
    appendS h n by_ ys b o len cap n ex = some (.slice b o (len + ys.length) cap n ex, h.set b (.cells (splice cs (o + len * n) (ys.flatMap AV.cells))), some b) := by
  unfold appendS
  rw [if_neg (by simpa using hy), if_pos ⟨rfl, hn, h1, h2⟩]
  simp only [hb]
  rw [if_pos hc, if_pos hr]
theorem sliceA_lo {P : Program} {t e : TypeId} {b o len cap n k : Nat} {ex : Bool} (ht : P.underlying t = some (.slice e)) (hn : tySize P e = some n) (hk : k < cap) (hl : k ≤ len) (hc : len ≤ cap) :
    sliceA P t (.slice b o len cap n ex) (some (.int .i64 (k : Int))) none none = some (.slice b (o + k * n) (len - k) (cap - k) n ex) := by
  have hb : boundsA len cap (some (.int .i64 (k : Int))) none none = some (k, len, cap) := by
    simp only [boundsA, intOf?, Option.isSome_none]
    rw [if_pos (by simp; omega)]
    simp
  unfold sliceA
  simp only [ht, hn, hb]
  rw [if_pos (.inl trivial), if_neg (by omega), if_neg (by omega)]
  simp
theorem sliceA_hi {P : Program} {t e : TypeId} {b o len cap n k : Nat} {ex : Bool} (ht : P.underlying t = some (.slice e)) (hn : tySize P e = some n) (hk : k ≤ cap) (h0 : 0 < cap) :
    sliceA P t (.slice b o len cap n ex) none (some (.int .i64 (k : Int))) none = some (.slice b o k cap n ex) := by
  have hb : boundsA len cap none (some (.int .i64 (k : Int))) none = some (0, k, cap) := by
    simp only [boundsA, intOf?, Option.isSome_none]
    rw [if_pos (by simp; omega)]
    simp
  unfold sliceA
  simp only [ht, hn, hb]
  rw [if_pos (.inl trivial), if_neg (by omega), if_neg (by omega)]
  simp
theorem copyA_to {P : Program} {t e : TypeId} {ts : List TypeId} {h : Heap} {b o len cap n n' : Nat} {ex : Bool} {src : AV} {ys cs vs : List AV} (ht : P.underlying t = some (.slice e)) (hn : tySize P e = some n) (hy : elemsA h n src = some ys) (hb : h[b]? = some (.cells cs)) {k : Nat} (hk : min ys.length len = k) (hc : o + k * n ≤ cs.length)
    (hv : (ys.take k).flatMap AV.cells = vs) : copyA P (t :: ts) h (.slice b o len cap n' ex) src = some (.int .i64 (k : Int), h.set b (.cells (splice cs o vs)), some b) := by
  subst hk hv
  unfold copyA
  simp only [ht, hn, hy, hb]
  rw [if_pos hc]
theorem elemsA_arr {h : Heap} {b o len cap n n' : Nat} {ex : Bool} {cs : List AV} (hb : h[b]? = some (.cells cs)) (hc : o + len * n ≤ cs.length) : elemsA h n (.slice b o len cap n' ex) = some (chunkA n len (cs.drop o)) := by
  unfold elemsA
  simp only [hb]
  rw [if_pos hc]
theorem ins_list1 {α : Type} {A Z vs B : List α} {a n : Nat} (hA : A.length = a) (hv : vs.length = n) (hZ : Z.length = n + B.length) : splice (splice (A ++ Z) a vs) (a + n) B = A ++ vs ++ B := by
  subst hA hv
  have e1 : splice (A ++ Z) A.length vs = A ++ vs ++ Z.drop vs.length := by
    unfold splice
    rw [List.take_left, List.drop_append, List.drop_eq_nil_of_le (by omega)]
    simp
  rw [e1]
  unfold splice
  rw [show A.length + vs.length = (A ++ vs).length by simp, List.take_left, List.drop_append, List.drop_eq_nil_of_le (by simp), List.drop_eq_nil_of_le (by simp; omega)]
  simp
theorem ins_list2 {α : Type} {cs vs B : List α} {a n : Nat} (hv : vs.length = n) (hc : a + n + B.length ≤ cs.length) : (splice (splice cs (a + n) B) a vs).take (a + n + B.length) = cs.take a ++ vs ++ B := by
  subst hv
  have e1 : (splice (splice cs (a + vs.length) B) a vs) = cs.take a ++ vs ++ (B ++ cs.drop (a + vs.length + B.length)) := by
    unfold splice
    rw [List.take_append_of_le_length (l₁ := cs.take (a + vs.length) ++ B) (by simp; omega), List.take_append_of_le_length (l₁ := cs.take (a + vs.length)) (by simp; omega), List.take_take, Nat.min_eq_left (by omega), List.append_assoc (cs.take (a + vs.length))]
    rw [List.drop_append, List.drop_eq_nil_of_le (by simp; omega), List.nil_append]
    congr 1
    rw [List.length_take, Nat.min_eq_left (by omega), Nat.sub_self, List.drop_zero]
  rw [e1, ← List.append_assoc, List.take_append_of_le_length (by simp; omega)]
  exact List.take_of_length_le (by simp; omega)
/-- A run to its end. -/
theorem evalF_of {C : Cfg} {f : FuncId} {fn : Func} {c : Code} {as : List AV} {h h' : Heap} {v : AV} {d : Bool} (hm : C.mode f ≠ .no) (hfn : C.P.funcs[f]? = some fn) (hb : fn.body = some c) (hv : (!d && v.clean h.length) = false)
    (hev : Ev (C.on f) h.length c ⟨as ++ List.replicate (fn.ntmps - as.length) .undef, h, false⟩ (fun x st => (∀ i, x ≠ .exit i) ∧ resultsA C.P fn.results.toList st.fr st.h = some v ∧ st.h = h' ∧ st.d = d)) : ∃ k, evalF C k f as h = some (v, h', d) := by
  obtain ⟨n, x, st, h1, hne, hr, rfl, rfl⟩ := hev
  rw [evalF_on] at h1
  refine ⟨n + 1, ?_⟩
  rw [evalF, if_neg hm]
  simp only [hfn, hb, h1]
  cases x with
  | exit i => exact (hne i rfl).elim
  | normal => simp only [hr, hv]; rfl
  | ret => simp only [hr, hv]; rfl

/-- The configuration in which Insert's own text is run. -/
def insC (P : Program) (g ov : FuncId) (n : Nat) : Cfg where
  P := P
  mode := fun f => if f = g then .impure else .no
  prim := fun _ => none
  hprim := fun f => if f = ov then some (overlapsA n) else none
  arrOf := fun f => f == g

/-- What the runs of Insert's own text give. -/
structure InsRuns (P : Program) (g ov : FuncId) (n by_ : Nat) : Prop where
  nils : ∀ (h : Heap) (v : AV) nn c t, v.cells.length = n → ∃ k, evalF (insC P g ov n) k g [.nils, .int .i64 0, .list [v] nn c t] h = some (.slice h.length 0 1 1 n false, h ++ [.cells v.cells], false)
  none : ∀ (h : Heap) (v : AV) n0 t0 nn c t, v.cells.length = n → ∃ k, evalF (insC P g ov n) k g [.list [] n0 (some 0) t0, .int .i64 0, .list [v] nn c t] h = some (.slice h.length 0 1 1 n false, h ++ [.cells v.cells], false)
  last : ∀ (h : Heap) (v : AV) nn c t (b len : Nat) cs, v.cells.length = n → h[b]? = some (.cells cs) → len * n ≤ cs.length → (len + 1) * by_ ≤ 35184372088832 → len + 1 ≤ 4294967296 →
    ∃ k d, evalF (insC P g ov n) k g [.slice b 0 len len n false, .int .i64 len, .list [v] nn c t] h = some (.slice h.length 0 (len + 1) (len + 1) n false, h.set b .dead ++ [.cells (cs.take (len * n) ++ v.cells)], d)
  room : ∀ (h : Heap) (v : AV) nn c t (b len cap i : Nat) cs, v.cells.length = n → h[b]? = some (.cells cs) → cap * n ≤ cs.length → i < len → len + 1 ≤ cap → len + 1 ≤ 4294967296 → (∀ x ∈ cs, x.one = true) → v.cells.all AV.one = true →
    ∃ k d cs', evalF (insC P g ov n) k g [.slice b 0 len cap n true, .int .i64 i, .list [v] nn c t] h = some (.slice b 0 (len + 1) cap n true, h.set b (.cells cs'), d) ∧ (len + 1) * n ≤ cs'.length ∧ cs'.take ((len + 1) * n) = cs.take (i * n) ++ v.cells ++ (cs.take (len * n)).drop (i * n)
  grow : ∀ (h : Heap) (v : AV) nn c t (b len cap i : Nat) cs, v.cells.length = n → h[b]? = some (.cells cs) → cap * n ≤ cs.length → i < len → len ≤ cap → cap < len + 1 → (len + 1) * by_ ≤ 35184372088832 → len + 1 ≤ 4294967296 → (∀ x ∈ cs, x.one = true) → v.cells.all AV.one = true →
    ∃ k d, evalF (insC P g ov n) k g [.slice b 0 len cap n true, .int .i64 i, .list [v] nn c t] h = some (.slice h.length 0 (len + 1) (len + 1) n false, h ++ [.cells (cs.take (i * n) ++ v.cells ++ (cs.take (len * n)).drop (i * n))], d)

/-- The whole row of an array. -/
theorem Step.reveal {B : Nat} {m : M} {h : Heap} {w : World} (hi : Inv m h w) {b c : Nat} {cs : List AV} (hb : h[b]? = some (.cells cs)) (hc : m.mu b = some c) {cvs : Array Value} {t : TypeId} (hw : w.heap[c]? = some (.cells cvs t (0, 0))) (k : Nat) (hk : k ≤ cs.length) :
    Step B m h w m (h.set b (.cells (cs.take k ++ (cvs.toList.drop k).map .raw))) w := by
  refine Step.relay hi hb _ (fun c' cvs' t' e1 e2 => ?_)
  rw [hc] at e1
  cases e1
  rw [hw] at e2
  cases e2
  obtain ⟨d, dvs, u, h1, h2, h3, h4, h5, h6⟩ := hi.var b cs hb
  rw [hc] at h1
  cases h1
  rw [hw] at h2
  cases h2
  have hl := h3.length
  have hsz : cs.length ≤ cvs.size := by simp at hl; omega
  have hlen : (cs.take k ++ (cvs.toList.drop k).map AV.raw).length = cvs.toList.length := by simp; omega
  rw [hlen, List.take_length]
  have e : cvs.toList = cvs.toList.take k ++ cvs.toList.drop k := (List.take_append_drop k _).symm
  have h1 : VRelL m (cs.take k) (cvs.toList.take k) := by
    have := h3.take k
    rwa [List.take_take, Nat.min_eq_left hk] at this
  have h2 : ∀ l : List Value, (∀ v ∈ l, v.oneCell' = true) → VRelL m (l.map .raw) l := by
    intro l
    induction l with
    | nil => intro _; exact .nil
    | cons v l ih => intro ho; exact .cons (by simp only [VRel]; exact ⟨trivial, ho v (by simp)⟩) (ih fun x hx => ho x (by simp [hx]))
  have := h1.append (h2 (cvs.toList.drop k) (fun v hv => h5 v (List.mem_of_mem_drop hv)))
  rwa [← e] at this

theorem bodiesOk_ins {P : Program} {g ov : FuncId} {n : Nat} {fn : Func} {c : Code} (hfn : P.funcs[g]? = some fn) (hb : fn.body = some c) (hd : drawsOk ((insC P g ov n).on g) c = true) : BodiesOk (insC P g ov n) := by
  intro f fn' c' hm hf hc
  have : f = g := by
    simp only [insC] at hm
    split at hm
    · assumption
    · exact (hm rfl).elim
  subst this
  simp only [insC] at hf
  rw [hfn] at hf
  cases hf
  rw [hb] at hc
  cases hc
  exact hd

/-- slices.overlaps' entry, at a list that never changes and an array. -/
theorem overlaps_ok {P : Program} {ov : FuncId} {tS tB e : TypeId} {n : Nat} (ht : P.underlying tS = some (.slice e)) (hz : tySize P e = some n)
    (hrun : ∀ (us : Array Value) (w : World), (callFunc ov us).run P w = ((do pure (.value (← Extern.SlicesOverlaps.overlaps #[tS, tS] #[tB] us))) : Sem Next).run P w)
    {vs : List AV} {h : Heap} {v : AV} {h' : Heap} {d : Bool} (he : overlapsA n vs h = some (v, h', d)) {m : M} {w : World} {us : Array Value} (hi : Inv m h w) (hr : VRelL m vs us.toList) :
    Res P ((callFunc ov us).run P w) (fun u w' => ∃ m', Step w.heap.size m h w m' h' w' ∧ VRel m' v u) ∧ h.length ≤ h'.length ∧ (d = false → ∀ i, i < h.length → h'[i]? = h[i]?) := by
  unfold overlapsA at he
  split at he
  case h_2 => cases he
  rename_i x xs nn cap tok b o len cp n' ex
  split at he
  case h_2 => cases he
  rename_i y ys hb
  split at he
  case isFalse => cases he
  rename_i hc
  obtain ⟨rfl, hn, hhead⟩ := hc
  simp only [Option.some.injEq, Prod.mk.injEq] at he
  obtain ⟨rfl, rfl, rfl⟩ := he
  refine ⟨?_, Nat.le_refl _, fun _ _ _ => rfl⟩
  simp only [VRelL] at hr
  obtain ⟨u, us1, e1, hx, u2, us2, e2, hy, e3⟩ := hr
  subst e3 e2
  have hus : us = #[u, u2] := by apply Array.ext'; rw [e1]
  subst hus
  simp only [VRel] at hx hy
  obtain ⟨c, capY, hmu, rfl, _⟩ := hy
  obtain ⟨c', cvs, t', k1, k2, k3, k4, k5, k6⟩ := hi.var b _ hb
  rw [hmu] at k1
  cases k1
  have hcl := k3.length
  have hcs : 0 < cvs.size := by simp at hcl; omega
  rcases hx with ⟨h0, _⟩ | ⟨a, cap', cvs', s, rfl, g2, g3, g4, g5, g6, g7, g8⟩
  · cases h0
  simp only [VRelL] at g4
  obtain ⟨cv, cvs1, rfl, hx1, hxs⟩ := g4
  have hcells : (VCells cv).length = n' := by
    rw [VCells_length hx1]; simpa [headOk] using hhead
  have hspot : a.spot = none := g2 (by simp at g3; omega)
  obtain ⟨z0, hz0⟩ : ∃ z0, (VCells cv)[0]? = some z0 := ⟨(VCells cv)[0]'(by omega), List.getElem?_eq_getElem (by omega)⟩
  have hF := g6 0 z0 (by rw [List.flatMap_cons, List.getElem?_append_left (by omega)]; exact hz0)
  have hcell := hi.f _ _ hF
  have hne : a.block ≠ c := fun e => by
    have := k4 ⟨a.block, a.off + 0, none⟩ e
    rw [this] at hF; cases hF
  obtain ⟨ca, ta, fa, hra⟩ : ∃ ca ta fa, w.heap[a.block]? = some (.cells ca ta fa) := by
    unfold World.cell? at hcell
    simp only at hcell
    split at hcell
    · rename_i heq; exact ⟨_, _, _, heq⟩
    · cases hcell
  have hov : (Extern.SlicesOverlaps.overlaps #[tS, tS] #[tB] #[.slice (some a) (x :: xs).length cap', .slice (some ⟨c, o, none⟩) len capY]).run P w = .ok (.bool false) w := by
    change Sem.run P (α := Value) (do
      let some t := (#[tS, tS] : Array TypeId)[0]? | stuck "slices.overlaps: no parameter types"
      let .slice elem ← underlying t | stuck "slices.overlaps: slice type expected"
      let size ← sizeOf elem
      match (some a : Option Addr), (some (⟨c, o, none⟩ : Addr) : Option Addr) with
      | some a, some b =>
        if (x :: xs).length = 0 ∨ len = 0 ∨ size = 0 then pure (Value.bool false)
        else if a.block != b.block && (← frozen a) && (← frozen b) then unsupported .addressObserved
        else do
          if a.block != b.block then do
            noView a; noView b
            if ← mayBeOne a b then return Value.bool ((← choose (.extern "sameAddr.stringBytes" 2)) == 1)
          pure (Value.bool (a.block == b.block && a.off < b.off + len * size && b.off < a.off + (x :: xs).length * size))
      | _, _ => pure (Value.bool false)) w = _
    have hz' : ∀ w, (Go.sizeOf e).run P w = .ok n' w := run_sizeOf' hz
    have hnb : (a.block != c) = true := by simpa using hne
    have hnb' : (a.block == c) = false := by simpa using hne
    obtain ⟨kB, hkB⟩ : ∃ kB, cvs.size = kB + 1 := ⟨cvs.size - 1, by omega⟩
    obtain ⟨kA, hkA⟩ : ∃ kA, ca.size = kA + 1 := ⟨ca.size - 1, by
      have h1 := cell_row (o := a.off + 0) hra
      rw [hcell] at h1
      have := (Array.getElem?_eq_some_iff.1 h1.symm).1
      omega⟩
    have hsa : w.shape? a.block = some (ta, kA + 1) := by simp [World.shape?, hra, hkA]
    have hsb : w.shape? c = some (t', kB + 1) := by simp [World.shape?, k2, hkB]
    have hfa : w.frozen? ⟨c, o, none⟩ = false := by simp [World.frozen?, k2]
    have hfe : w.frozen? { block := c, off := kB + 1 } = false := by simp [World.frozen?, k2]
    have hn0 : n' ≠ 0 := by omega
    by_cases h0 : len = 0
    · simp [run_underlying ht, hz', h0]
    · cases hq : w.frozen? a <;> cases hq2 : w.frozen? { block := a.block, off := kA + 1 } <;> simp [run_underlying ht, hz', h0, hn0, hnb, hnb', frozen, noView, viewAt, mayBeOne, stringish, shape, Sem.run, hsa, hsb, hfa, hfe, hq, hq2]
  rw [hrun]
  simp only [Sem.run_bind, hov, Result.andThen_ok, Sem.run_pure, Res]
  exact ⟨m, Step.refl hi, by simp only [VRel]⟩

theorem take_ones {xs : List AV} {cvs : List Value} {m : M} (k : Nat) (hx : (xs.take k).all AV.one = true) : ∀ x ∈ xs.take k ++ (cvs.drop k).map AV.raw, x.one = true := by
  intro x hm
  rcases List.mem_append.1 hm with hm | hm
  · exact List.all_eq_true.1 hx x hm
  · obtain ⟨v, _, rfl⟩ := List.mem_map.1 hm; rfl

theorem VRelL.ins {m : M} {x y z : AV} {us : Array Value} (h : VRelL m [x, y, z] us.toList) : ∃ u v w, us = #[u, v, w] ∧ VRel m x u ∧ VRel m y v ∧ VRel m z w := by
  simp only [VRelL] at h
  obtain ⟨u, us1, e1, h1, v, us2, rfl, h2, w, us3, rfl, h3, rfl⟩ := h
  exact ⟨u, v, w, by apply Array.ext'; rw [e1], h1, h2, h3⟩

/-- **slices.Insert's contract.** -/
theorem insert_ok {P : Program} {g ov : FuncId} {n by_ : Nat} (hC : CfgOk (insC P g ov n)) (hB : BodiesOk (insC P g ov n)) (hmix : P.follows .mixedOrders = true) (R : InsRuns P g ov n by_)
    {vs : List AV} {h : Heap} {v : AV} {h' : Heap} {d : Bool} (he : insertA n by_ vs h = some (v, h', d)) {m : M} {w : World} {us : Array Value} (hi : Inv m h w) (hr : VRelL m vs us.toList) :
    Res P ((callFunc g us).run P w) (fun u w' => ∃ m', Step w.heap.size m h w m' h' w' ∧ VRel m' v u) ∧ h.length ≤ h'.length ∧ (d = false → ∀ i, i < h.length → h'[i]? = h[i]?) := by
  have hent : (callFunc g us).run P w = .ok (.enter g us) w := callFunc_enter hC (g := g) (by simp [insC]) us w
  have go : ∀ {vs0 : List AV} {h0 : Heap} {v0 : AV} {h1 : Heap} {d0 : Bool} {k : Nat}, evalF (insC P g ov n) k g vs0 h0 = some (v0, h1, d0) → Inv m h0 w → VRelL m vs0 us.toList →
      Calls P g us w (fun e w' => ∃ u, e = .returned u ∧ ∃ m', Step w.heap.size m h0 w m' h1 w' ∧ VRel m' v0 u) := fun he hi hr => (evalF_ok hC hB hmix _ g _ _ _ _ _ he m w us hi hr).1
  rw [hent]
  simp only [Res]
  unfold insertA at he
  split at he
  · rename_i i x nn c t
    split at he
    case isFalse => cases he
    rename_i hc
    obtain ⟨rfl, hn, hl, hb⟩ := hc
    simp only [Option.some.injEq, Prod.mk.injEq] at he
    obtain ⟨rfl, rfl, rfl⟩ := he
    obtain ⟨k, hk⟩ := R.nils h x nn c t hl
    exact ⟨go hk hi hr, by simp, fun _ i hi => by rw [List.getElem?_append_left hi]⟩
  · rename_i n0 t0 i x nn c t
    split at he
    case isFalse => cases he
    rename_i hc
    obtain ⟨rfl, hn, hl, hb⟩ := hc
    simp only [Option.some.injEq, Prod.mk.injEq] at he
    obtain ⟨rfl, rfl, rfl⟩ := he
    obtain ⟨k, hk⟩ := R.none h x n0 t0 nn c t hl
    exact ⟨go hk hi hr, by simp, fun _ i hi => by rw [List.getElem?_append_left hi]⟩
  · rename_i b o len cap n' ex i x nn c t
    split at he
    case isFalse => cases he
    rename_i hc
    obtain ⟨rfl, rfl, hi0, hil, hn, hl, hone, hb1, hb2⟩ := hc
    split at he
    case h_2 => cases he
    rename_i cs hb
    split at he
    case isFalse => cases he
    rename_i hcs
    obtain ⟨hcs, hones⟩ := hcs
    simp only [Option.some.injEq, Prod.mk.injEq] at he
    obtain ⟨rfl, rfl, rfl⟩ := he
    refine ⟨?_, by simp, fun e => by cases e⟩
    have hbl := (List.getElem?_eq_some_iff.1 hb).1
    obtain ⟨j, rfl⟩ : ∃ j : Nat, i = (j : Int) := ⟨i.toNat, by omega⟩
    simp only [Int.toNat_natCast] at *
    obtain ⟨u1, u2, u3, rfl, hx, hy, hz⟩ := hr.ins
    simp only [VRel] at hx
    obtain ⟨c0, cap', hmu, rfl, hlc, hcc, hex, hrow⟩ := hx
    obtain ⟨kk, q1, q2⟩ := hrow hn
    obtain ⟨c', cvs, t', k1, k2, k3, k4, k5, k6⟩ := hi.var b cs hb
    rw [hmu] at k1
    cases k1
    rw [k6] at q1
    cases q1
    by_cases hj : j = len
    · subst hj
      obtain ⟨k, d, hk⟩ := R.last h x nn c t b j cs hl hb hcs hb1 hb2
      have e1 : cs.take (j * n') ++ x.cells ++ (cs.take (j * n')).drop (j * n') = cs.take (j * n') ++ x.cells := by
        rw [List.drop_eq_nil_of_le (by rw [List.length_take]; exact Nat.min_le_left _ _), List.append_nil]
      rw [e1]
      exact go hk hi (.cons (by simp only [VRel]; exact ⟨c0, cap', hmu, rfl, hlc, by omega, by simp, hrow⟩) (.cons hy (.cons hz .nil)))
    · have hjl : j < len := by omega
      have s0 := Step.reveal (B := w.heap.size) hi hb hmu k2 (len * n') hcs
      have hfull : (cs.take (len * n') ++ (cvs.toList.drop (len * n')).map AV.raw).length = cvs.size := by
        have := k3.length
        simp at this
        simp; omega
      have hb' : (h.set b (.cells (cs.take (len * n') ++ (cvs.toList.drop (len * n')).map AV.raw)))[b]? = some (.cells (cs.take (len * n') ++ (cvs.toList.drop (len * n')).map AV.raw)) := List.getElem?_set_self hbl
      have hones' := take_ones (m := m) (cvs := cvs.toList) (len * n') hones
      have hrel : VRelL m [.slice b 0 len cap' n' true, .int .i64 j, .list [x] nn c t] #[.slice (some ⟨c0, 0, none⟩) len cap', u2, u3].toList :=
        .cons (by simp only [VRel]; exact ⟨c0, cap', hmu, rfl, hlc, Nat.le_refl _, fun _ => rfl, hrow⟩) (.cons hy (.cons hz .nil))
      have hjn : j * n' ≤ len * n' := Nat.mul_le_mul_right _ (by omega)
      have etk : ∀ q, q ≤ len * n' → (cs.take (len * n') ++ (cvs.toList.drop (len * n')).map AV.raw).take q = cs.take q := fun q hq => by
        rw [List.take_append_of_le_length (by simp; omega), List.take_take, Nat.min_eq_left hq]
      by_cases hroom : len + 1 ≤ cap'
      · obtain ⟨k, d, cs', hk, hlen, htk⟩ := R.room _ x nn c t b len cap' j _ hl hb' (by rw [hfull]; omega) hjl hroom hb2 hones' hone
        rw [List.set_set] at hk
        refine (go hk s0.inv hrel).mono ?_
        rintro e w' ⟨u, rfl, m', s1, hv⟩
        have hb2' : (h.set b (.cells cs'))[b]? = some (.cells cs') := List.getElem?_set_self hbl
        simp only [VRel] at hv
        obtain ⟨c1, cap1, hmu1, rfl, hl1, _, hx1, hr1⟩ := hv
        obtain ⟨d1, dvs, u1', j1, j2, j3, j4, j5, j6⟩ := s1.inv.var b cs' hb2'
        rw [hmu1] at j1
        cases j1
        obtain ⟨kk, p1, p2⟩ := hr1 hn
        rw [j6] at p1
        cases p1
        have s2 := Step.move (B := w.heap.size) s1.inv hb2' hmu1 dvs u1' j2 (cs'.take ((len + 1) * n')) (by
          have hlt : (cs'.take ((len + 1) * n')).length = (len + 1) * n' := by simp; omega
          rw [hlt]
          have := j3.take ((len + 1) * n')
          rwa [List.take_take, Nat.min_eq_left hlen] at this)
        rw [List.length_set, List.set_set, htk, etk _ hjn, etk _ (Nat.le_refl _)] at s2
        refine ⟨_, rfl, _, (s0.trans s1).trans s2, ?_⟩
        simp only [VRel]
        exact ⟨c1, cap1, M.lay_mu' _ _ _ _, rfl, hl1, by omega, by simp, fun _ => ⟨_, M.lay_rho' _ _ _ _, p2⟩⟩
      · obtain ⟨k, d, hk⟩ := R.grow _ x nn c t b len cap' j _ hl hb' (by rw [hfull]; omega) hjl hlc (by omega) hb1 hb2 hones' hone
        rw [List.length_set, etk _ hjn, etk _ (Nat.le_refl _)] at hk
        refine (go hk s0.inv hrel).mono ?_
        rintro e w' ⟨u, rfl, m', s1, hv⟩
        have s2 := Step.die (B := w.heap.size) s1.inv b
        rw [List.set_append_left _ _ (by simpa using hbl), List.set_set] at s2
        exact ⟨u, rfl, m', (s0.trans s1).trans s2, hv⟩
  · cases he

end Go.Proofs.Ytpfdfilkhaoibaa.Ev

/-
  A law that is a pure function.
-/
namespace Go.Proofs.Ytpfdfilkhaoibaa.Ev
open Go
set_option linter.unusedVariables false
set_option linter.unusedSimpArgs false
theorem bool_of_frz {h : Heap} {v : AV} {b : Bool} (e : (frz h 3 v).strip = .bool b) : v = .bool b := by
  cases v with
  | slice b' o l c n ex =>
    simp only [frz, AV.fz] at e
    split at e <;> simp only [AV.strip] at e <;> cases e
  | bool b' => simpa only [frz, AV.fz, AV.strip] using e
  | _ => simp only [frz, AV.fz, AV.strip] at e; cases e
/-- The law, from the answer of the pure function. -/
theorem law_of_ret {C : Cfg} {f : FuncId} {as : List AV} {b : Bool} (hr : Ret C f as (.bool b)) (hs : stripL as = as) (hh : C.hprim f = none := by rfl) (hp : C.prim f = none := by rfl) (hm : C.mode f = .pure := by rfl) : ∃ k h d, evalF C k f as [] = some (.bool b, h, d) := by
  obtain ⟨k, hk⟩ := hr
  have := hk as hs [] false
  unfold callF at this
  simp only [hh, hp, hm, hs] at this
  split at this
  · split at this
    · rename_i v h1 d1 hv
      split at this
      · simp only [Option.some.injEq, Prod.mk.injEq] at this
        have e := bool_of_frz this.1
        subst e
        exact ⟨k, h1, d1, hv⟩
      · cases this
    · cases this
  · cases this
end Go.Proofs.Ytpfdfilkhaoibaa.Ev
