/-
  Regions, code, functions: what the evaluator says, the model does.
-/
import Derived.Test.YtnifldbmflkmpaaEvN
import Derived.LoopN
namespace Go.Proofs.Ytnifldbmflkmpaa.Ev
open Go
set_option linter.unusedVariables false
set_option linter.unusedSimpArgs false

/-- Operation number i. -/
def stepI (C : Cfg) (call : CallFn) (base : Nat) (ops : Array Oper) (i : Nat) (st : St) : Option St :=
  match ops[i]? with
  | none => some st
  | some o => stepOp C call base ops o st

/-- Whatever order is picked from here on, the evaluator ends in 'fin'. -/
def anyA (C : Cfg) (call : CallFn) (base : Nat) (ops : Array Oper) (fin : St) : Nat → Array Bool → St → Prop
  | 0, listed, st => Region.ready .any ops listed = [] ∧ st = fin
  | fuel + 1, listed, st =>
    (Region.ready .any ops listed = [] → st = fin) ∧
    ∀ i ∈ Region.ready .any ops listed, ∃ st', stepI C call base ops i st = some st' ∧ anyA C call base ops fin fuel (listed.setIfInBounds i true) st'

/-- An operation that may come up now may be taken first. -/
theorem anyA_first {C : Cfg} {call : CallFn} {base : Nat} {ops : Array Oper} {fin : St} {i : Nat} {oi : Oper} (hi : ops[i]? = some oi) (D : List Nat) :
    ∀ (fuel : Nat) (listed : Array Bool) (st si : St),
      (∀ j oj, ops[j]? = some oj → j ≠ i → listed.getD j true = false → j ∉ D → oi.apart ops oj = true ∧ compat (cls C oi) (cls C oj) = true) →
      (∀ j ∈ D, listed.getD j true = false ∧ ∃ oj, ops[j]? = some oj ∧ ∃ e ∈ oj.after, Region.binds .any e = true ∧ (e.on = i ∨ e.on ∈ D)) →
      i ∈ Region.ready .any ops listed → stepOp C call base ops oi st = some si →
      anyA C call base ops fin fuel (listed.setIfInBounds i true) si → anyA C call base ops fin (fuel + 1) listed st := by
  intro fuel
  induction fuel with
  | zero =>
    intro listed st si _ _ hr hs H
    refine ⟨fun h => (by rw [h] at hr; cases hr), fun j hj => ?_⟩
    by_cases hji : j = i
    · subst hji; exact ⟨si, by simp only [stepI, hi]; exact hs, H⟩
    · have := ready_mono hj hji
      rw [H.1] at this
      cases this
  | succ fuel ih =>
    intro listed st si hfree hD hr hs H
    refine ⟨fun h => (by rw [h] at hr; cases hr), fun j hj => ?_⟩
    by_cases hji : j = i
    · subst hji; exact ⟨si, by simp only [stepI, hi]; exact hs, H⟩
    · obtain ⟨sij, h1, h2⟩ := H.2 j (ready_mono hj hji)
      obtain ⟨hjun, oj, hoj, hall⟩ := mem_ready.1 hj
      have hnot : j ∉ D := fun hjD => by
        obtain ⟨_, oj', hoj', e, he, hb, hon⟩ := hD j hjD
        rw [hoj] at hoj'
        cases hoj'
        have h1 := hall e he hb
        have h0 : listed.getD e.on true = false := by
          rcases hon with hon | hon
          · rw [hon]; exact (mem_ready.1 hr).1
          · exact (hD _ hon).1
        rcases Nat.lt_or_ge e.on listed.size with h' | h'
        · simp [h'] at h0 h1; rw [h0] at h1; cases h1
        · simp [Array.getElem?_eq_none h'] at h1
      simp only [stepI, hoj] at h1
      obtain ⟨a1, a2⟩ := hfree j oj hoj hji hjun hnot
      obtain ⟨sj, k1, k2⟩ := step_swap a1 a2 hs h1
      refine ⟨sj, by simp only [stepI, hoj]; exact k1, ?_⟩
      refine ih (listed.setIfInBounds j true) sj sij ?_ ?_ (ready_mono hr (Ne.symm hji)) k2 ?_
      · intro k ok hk hki hun hno
        refine hfree k ok hk hki ?_ hno
        by_cases hjk : j = k
        · subst hjk; exact hjun
        · rw [getD_set_ne true hjk] at hun; exact hun
      · intro k hk
        obtain ⟨q1, q2⟩ := hD k hk
        refine ⟨?_, q2⟩
        rw [getD_set_ne true (fun e => hnot (by rw [e]; exact hk))]
        exact q1
      · rw [Array.setIfInBounds_comm _ _ hji]
        exact h2

def edgeTo (ops : Array Oper) (i : Nat) (d : List Nat) (n : Nat) : Bool :=
  match ops[n]? with | some o => o.after.any (fun e => Region.binds .any e && (e.on == i || d.contains e.on)) | none => false
/-- The operations that wait for operation i, one behind the other. -/
def waits (ops : Array Oper) (listed : Array Bool) (i : Nat) : Nat → List Nat
  | 0 => []
  | n + 1 =>
    if n ≠ i ∧ listed.getD n true = false ∧ edgeTo ops i (waits ops listed i n) n = true then n :: waits ops listed i n
    else waits ops listed i n
theorem waits_spec {ops : Array Oper} {listed : Array Bool} {i : Nat} : ∀ (n j : Nat), j ∈ waits ops listed i n → listed.getD j true = false ∧ ∃ oj, ops[j]? = some oj ∧ ∃ e ∈ oj.after, Region.binds .any e = true ∧ (e.on = i ∨ e.on ∈ waits ops listed i n)
  | 0, j, h => by simp [waits] at h
  | n + 1, j, h => by
    have sub : ∀ k, k ∈ waits ops listed i n → k ∈ waits ops listed i (n + 1) := fun k hk => by
      rw [waits]
      split
      · exact List.mem_cons_of_mem _ hk
      · exact hk
    have old : j ∈ waits ops listed i n → listed.getD j true = false ∧ ∃ oj, ops[j]? = some oj ∧ ∃ e ∈ oj.after, Region.binds .any e = true ∧ (e.on = i ∨ e.on ∈ waits ops listed i (n + 1)) := fun hj => by
      obtain ⟨h1, oj, h2, e, h3, h4, h5⟩ := waits_spec n j hj
      exact ⟨h1, oj, h2, e, h3, h4, h5.imp id (sub _)⟩
    rw [waits] at h
    split at h
    · rename_i hc
      obtain ⟨_, c2, c3⟩ := hc
      rcases List.mem_cons.1 h with e | e
      · subst e
        refine ⟨c2, ?_⟩
        unfold edgeTo at c3
        split at c3
        · rename_i o ho
          obtain ⟨e, he, hb⟩ := Array.any_eq_true'.1 c3
          simp only [Bool.and_eq_true, Bool.or_eq_true, beq_iff_eq, List.contains_iff_mem] at hb
          exact ⟨o, ho, e, he, hb.1, hb.2.imp id (sub _)⟩
        · cases c3
      · exact old e
    · exact old h
/-- Nothing that has not come up yet is disturbed by operation i, but what waits for it. -/
def freeA (C : Cfg) (ops : Array Oper) (listed : Array Bool) (i : Nat) : Bool :=
  match ops[i]? with
  | none => false
  | some oi => (List.range ops.size).all fun j => j == i || listed.getD j true || (waits ops listed i ops.size).contains j || match ops[j]? with
      | some oj => oi.apart ops oj && compat (cls C oi) (cls C oj)
      | none => true

theorem freeA_spec {C : Cfg} {ops : Array Oper} {i : Nat} {oi : Oper} {listed : Array Bool} (hi : ops[i]? = some oi) (h : freeA C ops listed i = true) (j : Nat) (oj : Oper)
    (hj : ops[j]? = some oj) (hne : j ≠ i) (hun : listed.getD j true = false) (hno : j ∉ waits ops listed i ops.size) :
    oi.apart ops oj = true ∧ compat (cls C oi) (cls C oj) = true := by
  simp only [freeA, hi, List.all_eq_true, List.mem_range] at h
  have h1 := h j (Array.getElem?_eq_some_iff.1 hj).1
  simpa only [hj, Bool.or_eq_true, beq_iff_eq, hne, false_or, hun, Bool.false_eq_true, Bool.and_eq_true, List.contains_iff_mem, hno] using h1

def lexA (C : Cfg) (ops : Array Oper) : Nat → Nat → Array Bool → Bool
  | 0, _, listed => (Region.ready .any ops listed).isEmpty
  | fuel + 1, k, listed => (Region.ready .any ops listed).contains k && freeA C ops listed k && lexA C ops fuel (k + 1) (listed.setIfInBounds k true)

theorem anyA_lex {C : Cfg} {call : CallFn} {base : Nat} {ops : Array Oper} {fin : St} : ∀ (l : List Oper) (k : Nat) (listed : Array Bool) (st : St), (∀ j, l[j]? = ops[k + j]?) →
    lexA C ops l.length k listed = true → evalOps C call base ops l st = some fin → anyA C call base ops fin l.length listed st
  | [], _, _, _, _, hB, h => by
    simp only [evalOps, Option.some.injEq] at h
    exact ⟨by simpa [lexA] using hB, h⟩
  | o :: l, k, listed, st, hl, hB, h => by
    have h0 : ops[k]? = some o := by simpa using (hl 0).symm
    simp only [List.length_cons, lexA, Bool.and_eq_true] at hB
    obtain ⟨⟨hr, hf⟩, hB'⟩ := hB
    simp only [evalOps] at h
    split at h
    · rename_i s1 hs
      exact anyA_first h0 (waits ops listed k ops.size) l.length listed st s1 (freeA_spec h0 hf) (waits_spec ops.size) (by simpa using hr) hs
        (anyA_lex l (k + 1) _ _ (fun j => by have := hl (j + 1); simpa [Nat.add_assoc, Nat.add_comm 1 j] using this) hB' h)
    · cases h

section
variable {C : Cfg} (hC : CfgOk C) {call : CallFn} (hcall : CallSpec C.P call) {base B : Nat} {ops : Array Oper} {Q : Exit → Act → World → Prop}
include hC hcall

theorem anyA_wp {fin : St} : ∀ (fuel : Nat) (listed : Array Bool) (st : St) (m : M) (a : Act) (w : World), anyA C call base ops fin fuel listed st → StRel m st a w → base ≤ st.h.length → B ≤ w.heap.size →
    (∀ m' a' w', StStep base B m st w m' fin a' w' → Q .normal a' w') → wpAny C.P .any ops Q fuel listed a w
  | 0, listed, st, m, a, w, h, hr, hb, hB, hk => by
    obtain ⟨h1, rfl⟩ := h
    exact ⟨h1, hk m a w ⟨hr, Step.refl hr.inv, Nat.le_refl _, fun e => ⟨e, fun _ _ => rfl⟩⟩⟩
  | fuel + 1, listed, st, m, a, w, h, hr, hb, hB, hk => by
    refine ⟨fun h0 => ?_, fun i hi => ?_⟩
    · have := h.1 h0
      subst this
      exact hk m a w ⟨hr, Step.refl hr.inv, Nat.le_refl _, fun e => ⟨e, fun _ _ => rfl⟩⟩
    · obtain ⟨s1, h1, h2⟩ := h.2 i hi
      unfold stepI at h1
      unfold wpOp
      split
      · rename_i ho
        simp only [ho, Option.some.injEq] at h1
        subst h1
        exact anyA_wp fuel _ st m a w h2 hr hb hB hk
      · rename_i o ho
        simp only [ho] at h1
        have := stepOp_ok hC hcall (B := B) h1 hr hb hB (Q := Q) (K := wpAny C.P .any ops Q fuel (listed.setIfInBounds i true)) (fun m' a' w' s =>
          anyA_wp fuel _ s1 m' a' w' h2 s.rel (Nat.le_trans hb s.len) (Nat.le_trans hB s.step.size) fun m2 a2 w2 s2 => hk m2 a2 w2 (s.trans s2))
        split
        · rename_i hw; rw [if_pos hw] at this; exact .inl this
        · rename_i hw; rw [if_neg hw] at this; exact this

theorem ops_wp : ∀ (l : List Oper) (st fin : St) (m : M) (a : Act) (w : World), evalOps C call base ops l st = some fin → StRel m st a w → base ≤ st.h.length → B ≤ w.heap.size →
    (∀ m' a' w', StStep base B m st w m' fin a' w' → Q .normal a' w') → wpList C.P ops Q l a w
  | [], st, fin, m, a, w, h, hr, hb, hB, hk => by
    simp only [evalOps, Option.some.injEq] at h
    subst h
    exact hk m a w ⟨hr, Step.refl hr.inv, Nat.le_refl _, fun e => ⟨e, fun _ _ => rfl⟩⟩
  | o :: l, st, fin, m, a, w, h, hr, hb, hB, hk => by
    simp only [evalOps] at h
    split at h
    · rename_i s1 hs
      refine wpList_step fun K hK => ?_
      exact stepOp_ok hC hcall (B := B) hs hr hb hB (fun m' a' w' s => hK _ _ (ops_wp l s1 fin m' a' w' h s.rel (Nat.le_trans hb s.len) (Nat.le_trans hB s.step.size) fun m2 a2 w2 s2 => hk m2 a2 w2 (s.trans s2)))
    · cases h

end

/-- Every region of a code whose order is drawn keeps to the check. -/
def drawsOk (C : Cfg) : Code → Bool
  | .region _ ops draw => !draw || lexA C ops ops.size 0 (Array.replicate ops.size false)
  | .seq a b => drawsOk C a && drawsOk C b
  | .cond _ a b => drawsOk C a && drawsOk C b
  | .block _ b => drawsOk C b
  | .loop b => drawsOk C b
  | .scope b => drawsOk C b
  | _ => true

/-- How the evaluator's way out and the model's agree. -/
def ExRel : Ex → Exit → Prop
  | .normal, .normal => True
  | .ret, .ret => True
  | .exit i, .exit j => i = j
  | _, _ => False

theorem Code_wp_mono {P : Program} {c : Code} {Q Q' : Exit → Act → World → Prop} {a : Act} {w : World} (h : c.wp P Q a w) (hq : ∀ e a w, Q e a w → Q' e a w) : c.wp P Q' a w := wp_mono h hq

section
variable {C : Cfg} (hC : CfgOk C) (hm : C.P.follows .mixedOrders = true) {call : CallFn} (hcall : CallSpec C.P call) {base n : Nat}
include hC hm hcall

/-- What the code leaves behind. -/
def Post (C : Cfg) (base : Nat) (m : M) (st : St) (w : World) (x : Ex) (st' : St) : Exit → Act → World → Prop := fun e a' w' => ExRel x e ∧ ∃ m', StStep base w.heap.size m st w m' st' a' w'

theorem code_ok : ∀ (c : Code), drawsOk C c = true → ∀ (st st' : St) (x : Ex), evalC C call base n c st = some (x, st') → ∀ (m : M) (a : Act) (w : World), StRel m st a w → base ≤ st.h.length →
    c.wp C.P (Post C base m st w x st') a w
  | .skip, _, st, st', x, he, m, a, w, hr, hb => by
    simp only [evalC, Option.some.injEq, Prod.mk.injEq] at he
    obtain ⟨rfl, rfl⟩ := he
    exact wp_skip ⟨trivial, m, hr, Step.refl hr.inv, Nat.le_refl _, fun e => ⟨e, fun _ _ => rfl⟩⟩
  | .label l, _, st, st', x, he, m, a, w, hr, hb => by
    simp only [evalC, Option.some.injEq, Prod.mk.injEq] at he
    obtain ⟨rfl, rfl⟩ := he
    exact wp_label ⟨trivial, m, hr, Step.refl hr.inv, Nat.le_refl _, fun e => ⟨e, fun _ _ => rfl⟩⟩
  | .region id ops draw, hd, st, st', x, he, m, a, w, hr, hb => by
    simp only [evalC] at he
    obtain ⟨fin, h1, he⟩ := Option.map_eq_some_iff.1 he
    simp only [Prod.mk.injEq] at he
    obtain ⟨rfl, rfl⟩ := he
    cases draw with
    | false => exact wp_region_list (ops_wp hC hcall ops.toList st fin m a w h1 hr hb (Nat.le_refl _) fun m' a' w' s => ⟨trivial, m', s⟩)
    | true =>
      simp only [drawsOk, Bool.not_true, Bool.false_or] at hd
      refine wp_region_any hm ?_
      have hA := anyA_lex (C := C) (call := call) (base := base) (ops := ops) (fin := fin) ops.toList 0 (Array.replicate ops.size false) st (by simp) (by simpa using hd) h1
      have s0 := Step.same (B := w.heap.size) hr.inv (w' := { w with drawn := w.drawn + 1 }) rfl rfl rfl rfl
      have hr0 : StRel m st a { w with drawn := w.drawn + 1 } := ⟨s0.inv, hr.fr, hr.defers⟩
      have := anyA_wp hC hcall (B := w.heap.size) (Q := Post C base m st w .normal fin) ops.toList.length _ st m a { w with drawn := w.drawn + 1 } hA hr0 hb (Nat.le_refl _) (fun m' a' w' s =>
        ⟨trivial, m', s.rel, s0.trans s.step, s.len, s.clean⟩)
      simpa using this
  | .seq p q, hd, st, st', x, he, m, a, w, hr, hb => by
    simp only [drawsOk, Bool.and_eq_true] at hd
    simp only [evalC] at he
    refine wp_seq ?_
    split at he
    · rename_i s1 h1
      refine Code_wp_mono (code_ok p hd.1 st s1 .normal h1 m a w hr hb) ?_
      rintro e a1 w1 ⟨hx, m1, s⟩
      cases e <;> simp only [ExRel] at hx
      refine Code_wp_mono (code_ok q hd.2 s1 st' x he m1 a1 w1 s.rel (Nat.le_trans hb s.len)) ?_
      rintro e a2 w2 ⟨hx2, m2, s2⟩
      exact ⟨hx2, m2, s.trans ⟨s2.rel, s2.step.mono s.step.size, s2.len, s2.clean⟩⟩
    · rename_i r hne
      refine Code_wp_mono (code_ok p hd.1 st st' x he m a w hr hb) ?_
      rintro e a1 w1 ⟨hx, m1, s⟩
      cases x with
      | normal => exact (hne _ he).elim
      | ret => cases e <;> simp only [ExRel] at hx; exact ⟨trivial, m1, s⟩
      | exit i => cases e <;> simp only [ExRel] at hx; exact ⟨hx, m1, s⟩
  | .cond c p q, hd, st, st', x, he, m, a, w, hr, hb => by
    simp only [drawsOk, Bool.and_eq_true] at hd
    simp only [evalC] at he
    split at he
    · rename_i hc
      exact wp_cond_true (hr.eval c _ hc).bool' (code_ok p hd.1 st st' x he m a w hr hb)
    · rename_i hc
      exact wp_cond_false (hr.eval c _ hc).bool' (code_ok q hd.2 st st' x he m a w hr hb)
    · cases he
  | .block id p, hd, st, st', x, he, m, a, w, hr, hb => by
    simp only [drawsOk] at hd
    simp only [evalC] at he
    refine wp_block ?_
    split at he
    · rename_i i s1 h1
      refine Code_wp_mono (code_ok p hd st s1 (.exit i) h1 m a w hr hb) ?_
      rintro e a1 w1 ⟨hx, m1, s⟩
      cases e <;> simp only [ExRel] at hx
      subst hx
      simp only [Exit.inBlock]
      split at he
      · rename_i hid
        rw [if_pos hid]
        simp only [Option.some.injEq, Prod.mk.injEq] at he
        obtain ⟨rfl, rfl⟩ := he
        exact ⟨trivial, m1, s⟩
      · rename_i hid
        rw [if_neg hid]
        simp only [Option.some.injEq, Prod.mk.injEq] at he
        obtain ⟨rfl, rfl⟩ := he
        exact ⟨rfl, m1, s⟩
    · rename_i r hne
      refine Code_wp_mono (code_ok p hd st st' x he m a w hr hb) ?_
      rintro e a1 w1 ⟨hx, m1, s⟩
      cases x with
      | normal => cases e <;> simp only [ExRel] at hx; exact ⟨trivial, m1, s⟩
      | ret => cases e <;> simp only [ExRel] at hx; exact ⟨trivial, m1, s⟩
      | exit i => exact (hne _ _ he).elim
  | .loop p, hd, st, st', x, he, m, a, w, hr, hb => by
    simp only [drawsOk] at hd
    simp only [evalC] at he
    have body := code_ok p hd
    refine wp_loop_rounds n ?_
    have key : ∀ (k : Nat) (s1 : St) (m1 : M) (a1 : Act) (w1 : World), iter (fun s => evalC C call base n p s) k s1 = some (x, st') → StStep base w.heap.size m st w m1 s1 a1 w1 →
        Code.rounds C.P p (Post C base m st w x st') k a1 w1 := by
      intro k
      induction k with
      | zero => intro s1 m1 a1 w1 h1 _; simp [iter] at h1
      | succ k ih =>
        intro s1 m1 a1 w1 h1 hs
        rw [rounds_succ]
        simp only [iter] at h1
        split at h1
        · rename_i s2 h2
          refine Code_wp_mono (body s1 s2 .normal h2 m1 a1 w1 hs.rel (Nat.le_trans hb hs.len)) ?_
          rintro e a2 w2 ⟨hx, m2, s⟩
          cases e <;> simp only [ExRel] at hx
          exact ih s2 m2 a2 w2 h1 (hs.trans ⟨s.rel, s.step.mono hs.step.size, s.len, s.clean⟩)
        · rename_i r hne
          refine Code_wp_mono (body s1 st' x h1 m1 a1 w1 hs.rel (Nat.le_trans hb hs.len)) ?_
          rintro e a2 w2 ⟨hx, m2, s⟩
          have hs2 := hs.trans ⟨s.rel, s.step.mono hs.step.size, s.len, s.clean⟩
          cases x with
          | normal => exact (hne _ h1).elim
          | ret => cases e <;> simp only [ExRel] at hx; exact ⟨trivial, m2, hs2⟩
          | exit i => cases e <;> simp only [ExRel] at hx; exact ⟨hx, m2, hs2⟩
    exact key n st m a w he ⟨hr, Step.refl hr.inv, Nat.le_refl _, fun e => ⟨e, fun _ _ => rfl⟩⟩
  | .scope p, hd, st, st', x, he, m, a, w, hr, hb => by
    simp only [drawsOk] at hd
    simp only [evalC] at he
    refine wp_scope_straight ?_
    refine Code_wp_mono (code_ok p hd st st' x he m a w hr hb) ?_
    rintro e a1 w1 ⟨hx, m1, s⟩
    cases e <;> (try exact ⟨hx, m1, s⟩)
    cases x <;> simp only [ExRel] at hx
  | .exit id, _, st, st', x, he, m, a, w, hr, hb => by
    simp only [evalC, Option.some.injEq, Prod.mk.injEq] at he
    obtain ⟨rfl, rfl⟩ := he
    exact wp_exit ⟨rfl, m, hr, Step.refl hr.inv, Nat.le_refl _, fun e => ⟨e, fun _ _ => rfl⟩⟩
  | .ret, _, st, st', x, he, m, a, w, hr, hb => by
    simp only [evalC, Option.some.injEq, Prod.mk.injEq] at he
    obtain ⟨rfl, rfl⟩ := he
    exact wp_ret ⟨trivial, m, hr, Step.refl hr.inv, Nat.le_refl _, fun e => ⟨e, fun _ _ => rfl⟩⟩
  | .rangeFunc _ _ _ _, _, st, st', x, he, m, a, w, hr, hb => by simp [evalC] at he
  | .goto _, _, st, st', x, he, m, a, w, hr, hb => by simp [evalC] at he
  | .refuse _, _, st, st', x, he, m, a, w, hr, hb => by simp [evalC] at he

end

/-- The code of every function that is walked keeps to the check. -/
def BodiesOk (C : Cfg) : Prop := ∀ f fn c, C.mode f ≠ .no → C.P.funcs[f]? = some fn → fn.body = some c → drawsOk C c = true

/-- One result. -/
def resultOne (tmps : Array Value) : ResultVar → Sem Value
  | .tmp t => pure (tmps.getD t undef)
  | .cell a t => do loadVar t (← asAddr (tmps.getD a undef))
theorem results_eq (fn : Func) (tmps : Array Value) : results fn tmps = (do
    let vs ← fn.results.mapM (resultOne tmps)
    pure (if h : vs.size = 1 then vs[0] else .tuple vs)) := by
  unfold results
  have : (fun x : ResultVar => (match x with | .tmp t => (pure (tmps.getD t undef) : Sem Value) | .cell a t => do loadVar t (← asAddr (tmps.getD a undef)))) = resultOne tmps := by
    funext x; cases x <;> rfl
  rw [← this]
  rfl

theorem resultA_ok {P : Program} {m : M} {st : St} {a : Act} {w : World} (hr : StRel m st a w) {r : ResultVar} {v : AV} (he : resultA P st.fr st.h r = some v) :
    ∃ u, (resultOne a.tmps r).run P w = .ok u w ∧ VRel m v u := by
  cases r with
  | tmp t =>
    simp only [resultA] at he
    exact ⟨_, rfl, hr.eval (.tmp t) v he⟩
  | cell ad t =>
    simp only [resultA] at he
    split at he
    · rename_i x hx
      have h1 := hr.eval (.tmp ad) x hx
      simp only [Act.eval] at h1
      obtain ⟨u, k1, k2⟩ := loadA_ok (P := P) hr.inv h1 he
      refine ⟨u, ?_, k2⟩
      simp only [resultOne]
      generalize a.tmps.getD ad undef = q at k1 ⊢
      cases q <;> simp [Instr.loadAt, Instr.sureAddr] at k1
      rename_i p
      cases p with
      | none => simp at k1
      | some p => simpa [asAddr] using k1
    · cases he

theorem results_mapM {P : Program} {m : M} {st : St} {a : Act} {w : World} (hr : StRel m st a w) : ∀ (rs : List ResultVar) (vs : List AV), rs.mapM (resultA P st.fr st.h) = some vs →
    ∃ us, (rs.mapM (resultOne a.tmps)).run P w = .ok us w ∧ VRelL m vs us
  | [], vs, h => by simp at h; subst h; exact ⟨[], by simp, .nil⟩
  | r :: rs, vs, h => by
    rw [List.mapM_cons] at h
    cases hx : resultA P st.fr st.h r with
    | none => simp [hx] at h
    | some v =>
      cases hl : rs.mapM (resultA P st.fr st.h) with
      | none => simp [hx, hl] at h
      | some ys =>
        simp [hx, hl] at h
        subst h
        obtain ⟨u, k1, k2⟩ := resultA_ok hr hx
        obtain ⟨us, k3, k4⟩ := results_mapM hr rs ys hl
        refine ⟨u :: us, ?_, .cons k2 k4⟩
        rw [List.mapM_cons]
        simp only [Sem.run_bind, k1, Result.andThen_ok, Sem.run_pure, k3]

theorem resultsA_ok {P : Program} {m : M} {st : St} {a : Act} {w : World} (hr : StRel m st a w) {fn : Func} {v : AV} (he : resultsA P fn.results.toList st.fr st.h = some v) :
    ∃ u, (results fn a.tmps).run P w = .ok u w ∧ VRel m v u := by
  unfold resultsA at he
  rw [results_eq, Array.mapM_eq_mapM_toList]
  cases hm : fn.results.toList.mapM (resultA P st.fr st.h) with
  | none => simp [hm] at he
  | some vs =>
    obtain ⟨us, k1, k2⟩ := results_mapM hr _ vs hm
    simp only [Sem.run_bind, Sem.run_map, k1, Result.andThen_ok, Sem.run_pure]
    have hl := k2.length
    rw [hm] at he
    split at he
    · rename_i x heq
      simp only [Option.some.injEq] at heq he
      subst heq he
      simp only [VRelL] at k2
      obtain ⟨u, us', rfl, k3, rfl⟩ := k2
      exact ⟨u, by simp, k3⟩
    · rename_i vs' hne heq
      simp only [Option.some.injEq] at heq he
      subst heq he
      have h1 : us.length ≠ 1 := by
        rw [hl]
        intro e
        match vs, e with
        | [y], _ => exact hne y rfl
      refine ⟨.tuple us.toArray, by simp [h1], ?_⟩
      simp only [VRel]
      exact ⟨_, rfl, k2⟩
    · rename_i heq; cases heq

mutual
theorem VRel.cleanOf {m : M} {n : Nat} (h1 : ∀ i c, m.mu i = some c → i < n) (h2 : ∀ i k r, m.rho i k = some r → i < n) : ∀ (x : AV) (v : Value), VRel m x v → x.clean n = true
  | .bool _, _, _ => rfl
  | .int _ _, _, _ => rfl
  | .str _, _, _ => rfl
  | .nilp, _, _ => rfl
  | .ptr b _, _, e => by simp only [VRel] at e; obtain ⟨c, e, _⟩ := e; simpa only [AV.clean, decide_eq_true_eq] using h1 _ _ e
  | .rptr x, _, e => by
    simp only [VRel] at e
    obtain ⟨a, cv, _, _, h3, _⟩ := e
    simpa only [AV.clean] using VRel.cleanOf h1 h2 x cv h3
  | .nils, _, _ => rfl
  | .list xs _ _ tok, _, e => by
    simp only [VRel] at e
    simp only [AV.clean, Bool.and_eq_true]
    rcases e with ⟨rfl, _, _, rfl, _⟩ | ⟨a, cap', cvs, s, _, _, _, h4, _, _, _, h8⟩
    · exact ⟨by simp only [cleanL], rfl⟩
    · refine ⟨VRelL.cleanOf h1 h2 xs cvs h4, ?_⟩
      cases tok with
      | none => rfl
      | some τ => simpa only [decide_eq_true_eq] using h2 _ _ _ (h8 τ rfl)
  | .slice b _ _ _, _, e => by simp only [VRel] at e; obtain ⟨c, e, _⟩ := e; simpa only [AV.clean, decide_eq_true_eq] using h1 _ _ e
  | .func _ x y, _, e => by
    simp only [VRel] at e
    obtain ⟨xs, ys, _, h3, h4⟩ := e
    simp only [AV.clean, Bool.and_eq_true]
    exact ⟨VRelL.cleanOf h1 h2 x _ h3, VRelL.cleanOf h1 h2 y _ h4⟩
  | .nilFunc, _, _ => rfl
  | .iface _ x, _, e => by simp only [VRel] at e; obtain ⟨cv, _, h3⟩ := e; simpa only [AV.clean] using VRel.cleanOf h1 h2 x cv h3
  | .nilIface, _, _ => rfl
  | .agg cs, _, e => by simp only [VRel] at e; obtain ⟨cvs, _, h3⟩ := e; simpa only [AV.clean] using VRelL.cleanOf h1 h2 cs _ h3
  | .tuple cs, _, e => by simp only [VRel] at e; obtain ⟨cvs, _, h3⟩ := e; simpa only [AV.clean] using VRelL.cleanOf h1 h2 cs _ h3
theorem VRelL.cleanOf {m : M} {n : Nat} (h1 : ∀ i c, m.mu i = some c → i < n) (h2 : ∀ i k r, m.rho i k = some r → i < n) : ∀ (x : List AV) (v : List Value), VRelL m x v → cleanL n x = true
  | [], _, _ => by simp only [cleanL]
  | x :: xs, _, e => by
    simp only [VRelL] at e
    obtain ⟨v, vs, _, h3, h4⟩ := e
    simp only [cleanL, Bool.and_eq_true]
    exact ⟨VRel.cleanOf h1 h2 x v h3, VRelL.cleanOf h1 h2 xs vs h4⟩
end

/-- Only what was there at the call is spoken of any more. -/
theorem Step.upto {m m' : M} {h h' : Heap} {w w' : World} (hi : Inv m h w) (s : Step w.heap.size m h w m' h' w') (hk : ∀ i, i < h.length → h'[i]? = h[i]?) (hl : h.length ≤ h'.length) :
    Step w.heap.size m h w (m'.upto h.length) h w' := by
  have hget : ∀ (i : Nat) (o : AO), h[i]? = some o → i < h.length ∧ h'[i]? = some o := fun i o e => by
    have := (List.getElem?_eq_some_iff.1 e).1
    exact ⟨this, by rw [hk i this]; exact e⟩
  have hle : m.le (m'.upto h.length) := ⟨s.le.F, fun i c e => by have := hi.mu i c e; simp only [M.upto, if_pos this]; exact s.le.mu _ _ e,
    fun i n r e => by have := hi.rho i n r e; simp only [M.upto, if_pos this]; exact s.le.rho _ _ _ e⟩
  refine ⟨hle, ⟨s.inv.f, s.inv.fone, ?_, ?_, ?_, ?_, ?_, ?_, ?_⟩, s.size, s.os, s.tape, s.output, s.frame, ?_, s.fnew⟩
  · intro i cs e
    obtain ⟨hil, e'⟩ := hget i _ e
    obtain ⟨c, cvs, t, h1, h2, h3, h4, h5⟩ := s.inv.var i cs e'
    obtain ⟨c0, cvs0, t0, g1, g2, g3, g4, g5⟩ := hi.var i cs e
    have hc : c = c0 := by have := s.le.mu _ _ g1; rw [h1] at this; cases this; rfl
    subst hc
    exact ⟨c, cvs, t, by simp only [M.upto, if_pos hil]; exact h1, h2, VRelL.upto _ _ (VRelL.cleanOf hi.mu hi.rho _ _ g3) h3, h4, h5⟩
  · intro i j cs ds c e e' h1 h2
    obtain ⟨hil, e⟩ := hget i _ e
    obtain ⟨hjl, e'⟩ := hget j _ e'
    simp only [M.upto, if_pos hil, if_pos hjl] at h1 h2
    exact s.inv.inj i j cs ds c e e' h1 h2
  · intro i n sz e
    obtain ⟨hil, e'⟩ := hget i _ e
    obtain ⟨a, cap, h1, h2⟩ := s.inv.own i n sz e'
    refine ⟨a, cap, by simp only [M.upto, if_pos hil]; exact h1, h2.spot, h2.le, h2.cell, h2.lt, fun k cs ek => ?_⟩
    obtain ⟨hkl, ek'⟩ := hget k _ ek
    simp only [M.upto, if_pos hkl]
    exact h2.var k cs ek'
  · intro i j n k sz tz a b ca cb e e' h1 h2 hne
    obtain ⟨hil, e⟩ := hget i _ e
    obtain ⟨hjl, e'⟩ := hget j _ e'
    simp only [M.upto, if_pos hil, if_pos hjl] at h1 h2
    exact s.inv.apart i j n k sz tz a b ca cb e e' h1 h2 hne
  · intro i c e
    simp only [M.upto] at e
    split at e
    · assumption
    · cases e
  · intro i n r e
    simp only [M.upto] at e
    split at e
    · assumption
    · cases e
  · intro i n k sz r e h1
    obtain ⟨hil, e'⟩ := hget i _ e
    simp only [M.upto, if_pos hil] at h1
    exact s.inv.cur i n k sz r e' h1
  · intro c hc
    refine s.touch c ?_
    rcases hc with ⟨i, cs, e, h1⟩ | ⟨i, n, sz, a, cap, e, h1, h2⟩
    · obtain ⟨hil, e'⟩ := hget i _ e
      simp only [M.upto, if_pos hil] at h1
      exact .inl ⟨i, cs, e', h1⟩
    · obtain ⟨hil, e'⟩ := hget i _ e
      simp only [M.upto, if_pos hil] at h1
      exact .inr ⟨i, n, sz, a, cap, e', h1, h2⟩

/-- **What the evaluator says of a function, the model does.** -/
theorem evalF_ok {C : Cfg} (hC : CfgOk C) (hB : BodiesOk C) (hm : C.P.follows .mixedOrders = true) : ∀ k, CallSpec C.P (evalF C k)
  | 0 => fun g vs h v h' d he => by simp [evalF] at he
  | k + 1 => fun g vs h v h' d he => by
    have ih := evalF_ok hC hB hm k
    simp only [evalF] at he
    split at he
    · cases he
    rename_i hmode
    split at he
    · cases he
    rename_i fn hfn
    split at he
    · cases he
    rename_i c hc
    intro m w us hi hr
    have hlen : us.size = vs.length := by have := hr.length; simpa using this
    have hst : StRel m ⟨vs ++ List.replicate (fn.ntmps - vs.length) .undef, h, false⟩ { tmps := us ++ Array.replicate (fn.ntmps - us.size) undef, defers := [] } w := by
      refine ⟨hi, ?_, rfl⟩
      simp only [Array.toList_append, Array.toList_replicate, hlen]
      exact hr.append (VRelL.replicate VRel.undef _)
    split at he
    · cases he
    · rename_i x st hne hev
      have hcode := code_ok hC hm ih (n := k) c (hB g fn c hmode hfn hc) _ _ x hev m _ w hst (Nat.le_refl _)
      split at he
      · rename_i q hq
        have fin : ∀ e a' w', Post C h.length m ⟨vs ++ List.replicate (fn.ntmps - vs.length) .undef, h, false⟩ w x st e a' w' →
            bodyPost C.P fn (fun e w' => ∃ u, e = .returned u ∧ ∃ m', Step w.heap.size m h w m' h' w' ∧ VRel m' v u) e a' w' := by
          rintro e a' w' ⟨hx, m', s⟩
          obtain ⟨u, k1, k2⟩ := resultsA_ok (P := C.P) s.rel hq
          have hpost : ∃ m', Step w.heap.size m h w m' h' w' ∧ VRel m' v u := by
            split at he
            · rename_i hcl
              simp only [Option.some.injEq, Prod.mk.injEq] at he
              obtain ⟨rfl, rfl, rfl⟩ := he
              simp only [Bool.and_eq_true, Bool.not_eq_true'] at hcl
              have hkeep := (s.clean hcl.1).2
              exact ⟨_, Step.upto hi s.step hkeep s.len, VRel.upto _ _ hcl.2 k2⟩
            · simp only [Option.some.injEq, Prod.mk.injEq] at he
              obtain ⟨rfl, rfl, rfl⟩ := he
              exact ⟨m', s.step, k2⟩
          cases x with
          | normal => cases e <;> simp only [ExRel] at hx; exact ⟨s.rel.defers, u, k1, u, rfl, hpost⟩
          | ret => cases e <;> simp only [ExRel] at hx; exact ⟨s.rel.defers, u, k1, u, rfl, hpost⟩
          | exit i => exact (hne i rfl).elim
        refine ⟨calls_of_wp hfn hc (Code_wp_mono hcode fin), ?_⟩
        obtain ⟨e0, a0, w0, ⟨hx0, m0, s0⟩, _⟩ := hcode default [] []
        split at he
        · simp only [Option.some.injEq, Prod.mk.injEq] at he
          obtain ⟨rfl, rfl, rfl⟩ := he
          exact ⟨Nat.le_refl _, fun _ _ _ => rfl⟩
        · simp only [Option.some.injEq, Prod.mk.injEq] at he
          obtain ⟨rfl, rfl, rfl⟩ := he
          exact ⟨s0.len, fun e => (s0.clean e).2⟩
      · cases he
    · cases he

end Go.Proofs.Ytnifldbmflkmpaa.Ev
