/-
  A function of one list that asks whether the list is nil: its contract, from two runs.
-/
import Derived.Test.YtnifldbmflkmpaaEvP
import Derived.Test.YtnifldbmflkmpaaEvR
namespace Go.Proofs.Ytnifldbmflkmpaa.Ev
open Go
set_option linter.unusedVariables false
set_option linter.unusedSimpArgs false

theorem run_of_body {C : Cfg} {f : FuncId} {fn : Func} {c : Code} {args : List AV} {v : AV} (hm : C.mode f ≠ .no) (hfn : C.P.funcs[f]? = some fn) (hb : fn.body = some c)
    (h : Ev C 0 c ⟨args ++ List.replicate (fn.ntmps - args.length) .undef, [], false⟩ (Done C fn v)) : ∃ k v0 h d, evalF C k f args [] = some (v0, h, d) ∧ v0.strip = v := by
  obtain ⟨n, x, st, h1, h2⟩ := h
  refine ⟨n + 1, ?_⟩
  rw [evalF, if_neg hm]
  simp only [hfn, hb, List.length_nil, h1]
  cases x with
  | exit i => exact h2.elim
  | normal => obtain ⟨v0, hr, hs⟩ := h2; simp only [hr]; split <;> exact ⟨_, _, _, rfl, hs⟩
  | ret => obtain ⟨v0, hr, hs⟩ := h2; simp only [hr]; split <;> exact ⟨_, _, _, rfl, hs⟩

/-- A call from a memory without a small heap. -/
theorem res_of_run {C1 : Cfg} (hC : CfgOk C1) (hB : BodiesOk C1) (hmix : C1.P.follows .mixedOrders = true) {g : FuncId} (hm : C1.mode g ≠ .no) {vs : List AV} {r v0 : AV} {k : Nat} {h' : Heap} {d' : Bool} (he : evalF C1 k g vs [] = some (v0, h', d')) (hs : v0.strip = r) (hr : r.clean 0 = true)
    (hcl : cleanL 0 vs = true) {m : M} {w : World} {us : Array Value} (hi : Inv m [] w) (hv : VRelL m vs us.toList) : Res C1.P ((callFunc g us).run C1.P w) (fun u w' => ∃ m', Step w.heap.size m [] w m' [] w' ∧ VRel m' r u) := by
  rw [callFunc_enter hC hm]
  simp only [Res]
  have hb : VRelL m.bare vs us.toList := by rw [← bare_upto]; exact VRelL.upto _ _ hcl hv
  obtain ⟨k1, _⟩ := evalF_ok hC hB hmix k g vs [] _ _ _ he m.bare w us hi.bare hb
  refine k1.mono ?_
  rintro e w'' ⟨u, rfl, m1, s, hu⟩
  subst hs
  exact ⟨u, rfl, _, Step.pure hi s, VRel.mono (M.bare_le m1.F m) _ _ (VRel.bare hr hu)⟩

theorem list_or_nil {m : M} {xs : List AV} {nn : Bool} {cap tok : Option Nat} {v : Value} (h : VRel m (.list xs nn cap tok) v) : (xs = [] ∧ VRel m .nils v) ∨ VRel m (.list xs true none none) v := by
  simp only [VRel] at h ⊢
  rcases h with ⟨h1, _, _, _, h2⟩ | ⟨a, cap', cvs, s, h1, h2, h3, h4, h5, h6, h7, h8⟩
  · exact .inl ⟨h1, h2⟩
  · exact .inr (.inr ⟨a, cap', cvs, s, h1, h2, h3, h4, h5, h6, by simp, by simp⟩)

theorem res_of_two {C1 : Cfg} (hC : CfgOk C1) (hB : BodiesOk C1) (hmix : C1.P.follows .mixedOrders = true) {g : FuncId} (hm : C1.mode g ≠ .no) {xs : List AV} {nn : Bool} {cap tok : Option Nat} {r : AV} (hr : r.clean 0 = true) (hcl : cleanL 0 xs = true)
    (h0 : xs = [] → ∃ k v0 h d, evalF C1 k g [.nils] [] = some (v0, h, d) ∧ v0.strip = r) (h1 : ∃ k v0 h d, evalF C1 k g [.list xs true none none] [] = some (v0, h, d) ∧ v0.strip = r)
    {m : M} {w : World} {us : Array Value} (hi : Inv m [] w) (hv : VRelL m [.list xs nn cap tok] us.toList) : Res C1.P ((callFunc g us).run C1.P w) (fun u w' => ∃ m', Step w.heap.size m [] w m' [] w' ∧ VRel m' r u) := by
  simp only [VRelL] at hv
  obtain ⟨v, vs, e, hv, rfl⟩ := hv
  rcases list_or_nil hv with ⟨hx, hv⟩ | hv
  · obtain ⟨k, v0, h, d, he, hs⟩ := h0 hx
    exact res_of_run hC hB hmix hm he hs hr (by simp) hi (by rw [e]; exact .cons hv .nil)
  · obtain ⟨k, v0, h, d, he, hs⟩ := h1
    exact res_of_run hC hB hmix hm he hs hr (by simp [hcl]) hi (by rw [e]; exact .cons hv .nil)

/-- A function of the library's, or a walk by the kit's rules, that leaves all that was there. -/
theorem Step.below {m : M} {w w' : World} (hi : Inv m [] w) (hb : RowKit.Below w.heap.size w w') : Step w.heap.size m [] w m [] w' where
  le := M.le.refl m
  inv := ⟨fun a v e => by have h := hi.f a v e; rw [hb.cell (World.block_lt_of_cell? w a h)]; exact h, hi.fone, fun i cs e => by simp at e, fun i j cs ds c e => by simp at e, fun i n sz e => by simp at e, hi.apart, hi.mu, hi.rho, hi.cur⟩
  size := hb.size
  os := hb.os
  tape := hb.tape
  output := hb.output
  frame := fun c hc _ => hb.block c hc
  touch := fun _ h => .inl h
  fnew := fun _ _ h => .inl h
theorem res_enter {P : Program} {g : FuncId} {us : Array Value} {w : World} {K : Value → World → Prop} (he : ∀ args w, (callFunc g args).run P w = .ok (.enter g args) w)
    (h : Calls P g us w fun e w' => ∃ v, e = .returned v ∧ K v w') : Res P ((callFunc g us).run P w) K := by
  rw [he]; exact h

theorem vcells_one {v : Value} (h : v.oneCell' = true) : VCells v = [v] := by
  cases v <;> first | rfl | (simp [Value.oneCell'] at h)
/-- .. and hands back a slice over a row of its own. -/
theorem Step.row {m : M} {w w' : World} (hi : Inv m [] w) (hb : RowKit.Below w.heap.size w w') {e : TypeId} {v : Value} {n : Nat} {cells : List Value} (ho : w'.ownsRow w.heap.size e 1 v n cells) (h1 : ∀ c ∈ cells, c.oneCell' = true) {xs : List AV} (hr : VRelL m xs cells) :
    ∃ m', Step w.heap.size m [] w m' [] w' ∧ VRel m' (.L xs) v := by
  have hlen := hr.length
  have hcl : cells.length = n := by simpa using ho.1
  rcases ho.2 with ⟨rfl, hn⟩ | ⟨g, cap, cur, rfl, hbg, hg, hnc, hcm, hcs, htake⟩
  · have hx : xs = [] := List.eq_nil_of_length_eq_zero (by omega)
    exact ⟨m, Step.below hi hb, by simp [VRel, hx]⟩
  · have s1 := Step.below hi hb
    have hcell : ∀ i u, cells[i]? = some u → w'.cell? ⟨g, i, none⟩ = some u := by
      intro i u hu
      rw [← htake, List.getElem?_take] at hu
      split at hu
      · simp only [World.cell?, hg]
        simpa using hu
      · cases hu
    have s2 := Step.fro (B := w.heap.size) s1.inv (fun a => if a.block = g ∧ a.spot = none then cells[a.off]? else none)
      (fun a u hu => by
        split at hu
        · rename_i hc
          obtain ⟨b, o, sp⟩ := a
          simp only at hc hu
          obtain ⟨rfl, rfl⟩ := hc
          exact hcell o u hu
        · cases hu)
      (fun a u hu => by
        split at hu
        · exact h1 u (List.mem_of_getElem? hu)
        · cases hu)
      (fun a u hu k cs hk => by simp at hk) (fun i n sz a cap hk => by simp at hk)
      (fun a u hu => by
        split at hu
        · rename_i hc; exact .inl (by rw [hc.1]; exact hbg)
        · cases hu)
    refine ⟨_, s1.trans s2, ?_⟩
    simp only [VRel]
    refine .inr ⟨⟨g, 0, none⟩, cap, cells, 1, by rw [← hlen, hcl], fun _ => rfl, by omega, VRelL.mono s2.le _ _ hr, fun c hc => by rw [vcells_one (h1 c hc)]; rfl, ?_, by simp, by simp⟩
    have hfl : cells.flatMap VCells = cells := by
      clear hr hlen hcl htake hcell s2 ho
      induction cells with
      | nil => rfl
      | cons c l ih => rw [List.flatMap_cons, vcells_one (h1 c (by simp)), ih (fun c hc => h1 c (List.mem_cons_of_mem _ hc))]; rfl
    rw [hfl]
    intro i u hu
    simp only [Nat.zero_add]
    cases hF : m.F ⟨g, i, none⟩ with
    | none => simpa using hu
    | some u' =>
      have e1 := s1.inv.f _ _ hF
      rw [hcell i u hu] at e1
      simpa using e1.symm

/-- A configuration without contracts whose functions the kernel has looked through. -/
def fnsOk (C : Cfg) (l : List Nat) : Bool := l.all fun f => match C.P.funcs[f]? with
  | some fn => (match fn.body with | some c => drawsOk C c | none => false) && decide (fn.name ≠ "runtime.NumGoroutine")
  | none => false
theorem fnsOk_at {C : Cfg} {l : List Nat} (h : fnsOk C l = true) {f : Nat} (hf : f ∈ l) : ∃ fn c, C.P.funcs[f]? = some fn ∧ fn.body = some c ∧ fn.name ≠ "runtime.NumGoroutine" ∧ drawsOk C c = true := by
  have := List.all_eq_true.1 h f hf
  split at this
  · rename_i fn hfn
    simp only [Bool.and_eq_true, decide_eq_true_eq] at this
    obtain ⟨h1, h2⟩ := this
    split at h1
    · rename_i c hc; exact ⟨fn, c, hfn, hc, h2, h1⟩
    · cases h1
  · cases this
theorem bodiesOk_of {C : Cfg} {l : List Nat} (h : fnsOk C l = true) (hl : ∀ f, C.mode f ≠ .no → f ∈ l) : BodiesOk C := by
  intro f fn c hm hfn hc
  obtain ⟨fn', c', e1, e2, _, e3⟩ := fnsOk_at h (hl f hm)
  rw [hfn] at e1
  cases e1
  rw [hc] at e2
  cases e2
  exact e3
theorem cfgOk_of {C : Cfg} {l : List Nat} (hp : PrimSpec C) (h : fnsOk C l = true) (hl : ∀ f, C.mode f ≠ .no → f ∈ l) : CfgOk C :=
  ⟨hp, fun f hm => let ⟨fn, c, e1, e2, e3, _⟩ := fnsOk_at h (hl f hm); ⟨fn, c, e1, e2, e3⟩⟩
theorem primSpec_none {C : Cfg} (h : ∀ g, C.prim g = none) : PrimSpec C := fun g p hp => by rw [h g] at hp; cases hp

end Go.Proofs.Ytnifldbmflkmpaa.Ev
