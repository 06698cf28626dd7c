/-
  More steps change no answer; the rules by which a function's run is followed, piece by piece.
-/
import Derived.Test.YtnifldbmflkmpaaEvA
namespace Go.Proofs.Ytnifldbmflkmpaa.Ev
open Go
set_option linter.unusedVariables false
set_option linter.unusedSimpArgs false

def CallLe (c c' : CallFn) : Prop := ∀ g vs h r, c g vs h = some r → c' g vs h = some r
theorem CallLe.refl (c : CallFn) : CallLe c c := fun _ _ _ _ h => h

theorem callF_mono {C : Cfg} {c c' : CallFn} (hc : CallLe c c') {g : FuncId} {vs : List AV} {h : Heap} {d : Bool} {r : AV × Heap × Bool} (he : callF C c g vs h d = some r) : callF C c' g vs h d = some r := by
  unfold callF at he ⊢
  split at he
  · exact he
  · split at he
    · split at he
      · rename_i hcl
        rw [if_pos hcl]
        split at he
        · rename_i v h1 d1 hq
          rw [hc _ _ _ _ hq]
          exact he
        · cases he
      · cases he
    · split at he
      · rename_i v h1 d1 hq
        rw [hc _ _ _ _ hq]
        exact he
      · cases he
    · cases he

theorem evalOp_mono {C : Cfg} {c c' : CallFn} (hc : CallLe c c') {base : Nat} {o : Oper} {ρ : Operand → Option AV} {h : Heap} {d : Bool} {r : AV × Heap × Bool} (he : evalOp C c base o ρ h d = some r) : evalOp C c' base o ρ h d = some r := by
  obtain ⟨dst, op, type, pos, after, guard⟩ := o
  cases op with
  | call cl =>
    obtain ⟨callee, args, argTypes⟩ := cl
    simp only [evalOp] at he ⊢
    split at he
    · rename_i vs hvs
      cases callee with
      | builtin b => exact he
      | value f =>
        dsimp only at he ⊢
        cases hg : ρ f with
        | none => rw [hg] at he; cases he
        | some x =>
          rw [hg] at he
          split at he
          · rename_i g first captured hx
            cases hx
            exact callF_mono hc he
          · cases he
      | invoke _ _ => exact he
    · cases he
  | _ => exact he

theorem stepOp_mono {C : Cfg} {c c' : CallFn} (hc : CallLe c c') {base : Nat} {ops : Array Oper} {o : Oper} {st st' : St} (he : stepOp C c base ops o st = some st') : stepOp C c' base ops o st = some st' := by
  unfold stepOp at he ⊢
  split at he
  · rename_i hw
    rw [if_pos hw]
    split at he
    · rename_i hq
      rw [evalOp_mono hc hq]
      exact he
    · cases he
  · rename_i hw
    rw [if_neg hw]
    exact he

theorem evalOps_mono {C : Cfg} {c c' : CallFn} (hc : CallLe c c') {base : Nat} {ops : Array Oper} : ∀ {l : List Oper} {st st' : St}, evalOps C c base ops l st = some st' → evalOps C c' base ops l st = some st'
  | [], _, _, he => he
  | o :: l, st, st', he => by
    simp only [evalOps] at he ⊢
    split at he
    · rename_i s hs
      rw [stepOp_mono hc hs]
      exact evalOps_mono hc he
    · cases he

theorem iter_mono {b b' : St → Option (Ex × St)} (hb : ∀ s r, b s = some r → b' s = some r) : ∀ {n n' : Nat} {st : St} {r : Ex × St}, n ≤ n' → iter b n st = some r → iter b' n' st = some r
  | 0, _, _, _, _, he => by simp [iter] at he
  | n + 1, 0, _, _, hn, _ => by omega
  | n + 1, n' + 1, st, r, hn, he => by
    simp only [iter] at he ⊢
    cases hq : b st with
    | none => rw [hq] at he; cases he
    | some p =>
      rw [hq] at he
      rw [hb _ _ hq]
      obtain ⟨x, s⟩ := p
      cases x with
      | normal => exact iter_mono hb (by omega) he
      | ret => exact he
      | exit i => exact he

theorem evalC_mono {C : Cfg} {c c' : CallFn} (hc : CallLe c c') {base n n' : Nat} (hn : n ≤ n') : ∀ (code : Code) (st : St) (r : Ex × St), evalC C c base n code st = some r → evalC C c' base n' code st = some r
  | .skip, _, _, he => he
  | .label _, _, _, he => he
  | .region _ ops _, st, r, he => by
    simp only [evalC] at he ⊢
    cases hq : evalOps C c base ops ops.toList st with
    | none => rw [hq] at he; cases he
    | some s => rw [evalOps_mono hc hq]; rw [hq] at he; exact he
  | .seq a b, st, r, he => by
    simp only [evalC] at he ⊢
    cases hq : evalC C c base n a st with
    | none => rw [hq] at he; cases he
    | some p =>
      rw [evalC_mono hc hn a st p hq]
      rw [hq] at he
      obtain ⟨x, s⟩ := p
      cases x with
      | normal => exact evalC_mono hc hn b s r he
      | ret => exact he
      | exit i => exact he
  | .cond x a b, st, r, he => by
    simp only [evalC] at he ⊢
    split at he
    · exact evalC_mono hc hn a st r he
    · exact evalC_mono hc hn b st r he
    · cases he
  | .block id body, st, r, he => by
    simp only [evalC] at he ⊢
    cases hq : evalC C c base n body st with
    | none => rw [hq] at he; cases he
    | some p => rw [evalC_mono hc hn body st p hq]; rw [hq] at he; exact he
  | .loop body, st, r, he => by
    simp only [evalC] at he ⊢
    exact iter_mono (fun s q => evalC_mono hc hn body s q) hn he
  | .scope body, st, r, he => by
    simp only [evalC] at he ⊢
    exact evalC_mono hc hn body st r he
  | .exit _, _, _, he => he
  | .ret, _, _, he => he
  | .rangeFunc .., _, _, he => by simp [evalC] at he
  | .goto _, _, _, he => by simp [evalC] at he

theorem evalF_succ {C : Cfg} {k : Nat} (ih : CallLe (evalF C k) (evalF C (k + 1))) : CallLe (evalF C (k + 1)) (evalF C (k + 1 + 1)) := by
  intro f args h r he
  rw [evalF] at he ⊢
  split at he
  · cases he
  · rename_i hm
    rw [if_neg hm]
    split at he
    · cases he
    · rename_i fn hfn
      split at he
      · cases he
      · rename_i c hb
        split at he
        · cases he
        · rename_i x st hne hq
          have := evalC_mono ih (Nat.le_succ k) c _ _ hq
          simp only [hb, this]
          cases x with
          | exit i => exact (hne i rfl).elim
          | normal => exact he
          | ret => exact he
        · cases he

theorem evalF_mono {C : Cfg} : ∀ {k k' : Nat}, k ≤ k' → CallLe (evalF C k) (evalF C k') := by
  have one : ∀ k, CallLe (evalF C k) (evalF C (k + 1)) := by
    intro k
    induction k with
    | zero => intro f args h r he; simp [evalF] at he
    | succ k ih => exact evalF_succ ih
  intro k k' h
  induction h with
  | refl => exact CallLe.refl _
  | step _ ih => exact fun g vs hp r he => one _ g vs hp r (ih g vs hp r he)

/-- A piece of code runs to an end of which Q holds. -/
def Ev (C : Cfg) (base : Nat) (c : Code) (st : St) (Q : Ex → St → Prop) : Prop :=
  ∃ n x st', evalC C (evalF C n) base n c st = some (x, st') ∧ Q x st'
def EvOps (C : Cfg) (base : Nat) (ops : Array Oper) (l : List Oper) (st : St) (Q : St → Prop) : Prop :=
  ∃ n st', evalOps C (evalF C n) base ops l st = some st' ∧ Q st'

def onNormal (R : St → Prop) (Q : Ex → St → Prop) : Ex → St → Prop
  | .normal, s => R s
  | .ret, s => Q .ret s
  | .exit i, s => Q (.exit i) s
def onBlock (id : Nat) (Q : Ex → St → Prop) : Ex → St → Prop
  | .normal, s => Q .normal s
  | .ret, s => Q .ret s
  | .exit i, s => if i = id then Q .normal s else Q (.exit i) s

theorem Ev.at {C : Cfg} {base n n' : Nat} {c : Code} {st st' : St} {x : Ex} (h : evalC C (evalF C n) base n c st = some (x, st')) (hn : n ≤ n') : evalC C (evalF C n') base n' c st = some (x, st') :=
  evalC_mono (evalF_mono hn) hn c st _ h

theorem Ev.mono {C : Cfg} {base : Nat} {c : Code} {st : St} {Q Q' : Ex → St → Prop} (h : Ev C base c st Q) (hq : ∀ x s, Q x s → Q' x s) : Ev C base c st Q' := by
  obtain ⟨n, x, s, h1, h2⟩ := h
  exact ⟨n, x, s, h1, hq x s h2⟩

theorem Ev.skip {C : Cfg} {base : Nat} {st : St} {Q : Ex → St → Prop} (h : Q .normal st) : Ev C base .skip st Q := ⟨0, _, _, rfl, h⟩
theorem Ev.label {C : Cfg} {base l : Nat} {st : St} {Q : Ex → St → Prop} (h : Q .normal st) : Ev C base (.label l) st Q := ⟨0, _, _, rfl, h⟩
theorem Ev.ret {C : Cfg} {base : Nat} {st : St} {Q : Ex → St → Prop} (h : Q .ret st) : Ev C base .ret st Q := ⟨0, _, _, rfl, h⟩
theorem Ev.exit {C : Cfg} {base id : Nat} {st : St} {Q : Ex → St → Prop} (h : Q (.exit id) st) : Ev C base (.exit id) st Q := ⟨0, _, _, rfl, h⟩
theorem Ev.scope {C : Cfg} {base : Nat} {c : Code} {st : St} {Q : Ex → St → Prop} (h : Ev C base c st Q) : Ev C base (.scope c) st Q := by
  obtain ⟨n, x, s, h1, h2⟩ := h
  exact ⟨n, x, s, by rw [evalC]; exact h1, h2⟩

theorem Ev.region {C : Cfg} {base id : Nat} {ops : Array Oper} {b : Bool} {st : St} {Q : Ex → St → Prop} (h : EvOps C base ops ops.toList st (Q .normal)) : Ev C base (.region id ops b) st Q := by
  obtain ⟨n, s, h1, h2⟩ := h
  exact ⟨n, .normal, s, by simp [evalC, h1], h2⟩

theorem Ev.seq {C : Cfg} {base : Nat} {a b : Code} {st : St} {Q : Ex → St → Prop} (h : Ev C base a st (onNormal (fun s => Ev C base b s Q) Q)) : Ev C base (a.seq b) st Q := by
  obtain ⟨n, x, s, h1, h2⟩ := h
  cases x with
  | normal =>
    obtain ⟨n', x', s', h3, h4⟩ := h2
    refine ⟨max n n', x', s', ?_, h4⟩
    rw [evalC, Ev.at h1 (Nat.le_max_left _ _)]
    exact Ev.at h3 (Nat.le_max_right _ _)
  | ret => exact ⟨n, .ret, s, by rw [evalC, h1], h2⟩
  | exit i => exact ⟨n, .exit i, s, by rw [evalC, h1], h2⟩

theorem Ev.cond {C : Cfg} {base : Nat} {x : Operand} {a b : Code} {st : St} {Q : Ex → St → Prop} (v : Bool) (hx : evalOperand st.fr x = some (.bool v)) (h1 : v = true → Ev C base a st Q) (h2 : v = false → Ev C base b st Q) : Ev C base (.cond x a b) st Q := by
  cases v with
  | true =>
    obtain ⟨n, x', s, h3, h4⟩ := h1 rfl
    exact ⟨n, x', s, by rw [evalC, hx]; exact h3, h4⟩
  | false =>
    obtain ⟨n, x', s, h3, h4⟩ := h2 rfl
    exact ⟨n, x', s, by rw [evalC, hx]; exact h3, h4⟩

theorem Ev.block {C : Cfg} {base id : Nat} {c : Code} {st : St} {Q : Ex → St → Prop} (h : Ev C base c st (onBlock id Q)) : Ev C base (.block id c) st Q := by
  obtain ⟨n, x, s, h1, h2⟩ := h
  cases x with
  | normal => exact ⟨n, .normal, s, by rw [evalC, h1], h2⟩
  | ret => exact ⟨n, .ret, s, by rw [evalC, h1], h2⟩
  | exit i =>
    simp only [onBlock] at h2
    by_cases hi : i = id
    · rw [if_pos hi] at h2
      exact ⟨n, .normal, s, by rw [evalC, h1]; simp [hi], h2⟩
    · rw [if_neg hi] at h2
      exact ⟨n, .exit i, s, by rw [evalC, h1]; simp [hi], h2⟩

/-- A loop: I, with a measure. -/
theorem Ev.loop {C : Cfg} {base : Nat} {c : Code} {Q : Ex → St → Prop} (I : Nat → St → Prop) (step : ∀ m st, I m st → Ev C base c st (onNormal (fun s => ∃ m', m' < m ∧ I m' s) Q)) :
    ∀ (m : Nat) (st : St), I m st → Ev C base (.loop c) st Q := by
  intro m
  induction m using Nat.strongRecOn with
  | ind m ih =>
    intro st hi
    obtain ⟨n, x, s, h1, h2⟩ := step m st hi
    cases x with
    | normal =>
      obtain ⟨m', hm, hi'⟩ := h2
      obtain ⟨n', x', s', h3, h4⟩ := ih m' hm s hi'
      refine ⟨max n n' + 1, x', s', ?_, h4⟩
      rw [evalC] at h3 ⊢
      rw [iter, Ev.at h1 (n' := max n n' + 1) (by omega)]
      exact iter_mono (fun s q hq => evalC_mono (evalF_mono (by omega)) (by omega) c s q hq) (Nat.le_max_right n n') h3
    | ret => exact ⟨n + 1, .ret, s, by rw [evalC, iter, Ev.at h1 (n' := n + 1) (by omega)], h2⟩
    | exit i => exact ⟨n + 1, .exit i, s, by rw [evalC, iter, Ev.at h1 (n' := n + 1) (by omega)], h2⟩

theorem EvOps.nil {C : Cfg} {base : Nat} {ops : Array Oper} {st : St} {Q : St → Prop} (h : Q st) : EvOps C base ops [] st Q := ⟨0, st, rfl, h⟩
/-- Operations without a call. -/
theorem EvOps.run {C : Cfg} {base : Nat} {ops : Array Oper} {l : List Oper} {st st' : St} {Q : St → Prop} (h : ∀ call, evalOps C call base ops l st = some st') (hq : Q st') : EvOps C base ops l st Q := ⟨0, st', h _, hq⟩
theorem EvOps.one {C : Cfg} {base : Nat} {ops : Array Oper} {o : Oper} {l : List Oper} {st st' : St} {Q : St → Prop} (h : ∀ call, stepOp C call base ops o st = some st') (hq : EvOps C base ops l st' Q) : EvOps C base ops (o :: l) st Q := by
  obtain ⟨n, s, h1, h2⟩ := hq
  exact ⟨n, s, by rw [evalOps, h]; exact h1, h2⟩

/-- A pure function's answer. -/
def Ret (C : Cfg) (f : FuncId) (as : List AV) (v : AV) : Prop :=
  ∃ k, ∀ vs, stripL vs = as → ∀ h d, callF C (evalF C k) f vs h d = some (v, h, d)

theorem EvOps.call {C : Cfg} {base : Nat} {ops : Array Oper} {o : Oper} {l : List Oper} {st : St} {Q : St → Prop} {g : FuncId} {args : Array Operand} {ts : Array TypeId} {vs as : List AV} {v : AV}
    (hop : o.op = .call ⟨.value (.func g), args, ts⟩) (hw : Region.wanted o (yieldedA ops st.fr) = true) (hargs : args.toList.mapM (evalOperand st.fr) = some vs) (hs : stripL vs = as) (hr : Ret C g as v)
    (hq : EvOps C base ops l (St.put ⟨st.fr, st.h, st.d⟩ o.dst v) Q) : EvOps C base ops (o :: l) st Q := by
  obtain ⟨k, hk⟩ := hr
  obtain ⟨n, s, h1, h2⟩ := hq
  refine ⟨max n k, s, ?_, h2⟩
  have hstep : stepOp C (evalF C (max n k)) base ops o st = some (St.put ⟨st.fr, st.h, st.d⟩ o.dst v) := by
    have hc := callF_mono (C := C) (evalF_mono (Nat.le_max_right n k)) (hk vs hs st.h st.d)
    unfold stepOp
    rw [if_pos hw]
    unfold evalOp
    simp only [hop, hargs, evalOperand, List.nil_append, List.append_nil, hc]
  rw [evalOps, hstep]
  exact evalOps_mono (evalF_mono (Nat.le_max_left _ _)) h1

/-- How a function's body must end. -/
def Done (C : Cfg) (fn : Func) (v : AV) : Ex → St → Prop
  | .exit _, _ => False
  | _, st => ∃ v0, resultsA C.P fn.results.toList st.fr st.h = some v0 ∧ v0.strip = v

theorem Ret.of_body {C : Cfg} {f : FuncId} {fn : Func} {c : Code} {as : List AV} {v : AV} (hp : C.prim f = none) (hm : C.mode f = .pure) (hfn : C.P.funcs[f]? = some fn) (hb : fn.body = some c) (hcl : cleanL 0 as = true) (hv : v.clean 0 = true)
    (h : Ev C 0 c ⟨as ++ List.replicate (fn.ntmps - as.length) .undef, [], false⟩ (Done C fn v)) : Ret C f as v := by
  obtain ⟨n, x, st, h1, h2⟩ := h
  have hF : ∃ h0 d0 v0, evalF C (n + 1) f as [] = some (v0, h0, d0) ∧ v0.strip = v := by
    rw [evalF, if_neg (by rw [hm]; simp)]
    simp only [hfn, hb, List.length_nil, h1]
    cases x with
    | exit i => exact h2.elim
    | normal =>
      obtain ⟨v0, hr, hs⟩ := h2
      simp only [hr]
      split
      · exact ⟨_, _, _, rfl, hs⟩
      · exact ⟨_, _, _, rfl, hs⟩
    | ret =>
      obtain ⟨v0, hr, hs⟩ := h2
      simp only [hr]
      split
      · exact ⟨_, _, _, rfl, hs⟩
      · exact ⟨_, _, _, rfl, hs⟩
  obtain ⟨h0, d0, v0, e1, e2⟩ := hF
  refine ⟨n + 1, fun vs hs h d => ?_⟩
  unfold callF
  simp only [hp, hm, hs, if_pos hcl, e1, e2, if_pos hv]

theorem Ret.of_prim {C : Cfg} {f : FuncId} {p : List AV → Option AV} {as : List AV} {v : AV} (hp : C.prim f = some p) (hcl : cleanL 0 as = true) (hq : p as = some v) (hv : v.clean 0 = true) : Ret C f as v :=
  ⟨0, fun vs hs h d => by unfold callF; simp only [hp, hs, if_pos hcl, hq, Option.bind_some, if_pos hv]⟩

/-- The law itself. -/
theorem law_of_body {C : Cfg} {f : FuncId} {fn : Func} {c : Code} {as : List AV} {v : AV} (hm : C.mode f ≠ .no) (hfn : C.P.funcs[f]? = some fn) (hb : fn.body = some c)
    (h : Ev C 0 c ⟨as ++ List.replicate (fn.ntmps - as.length) .undef, [], false⟩ (fun x st => (∀ i, x ≠ .exit i) ∧ resultsA C.P fn.results.toList st.fr st.h = some v)) : ∃ k h d, evalF C k f as [] = some (v, h, d) := by
  obtain ⟨n, x, st, h1, hne, hr⟩ := h
  refine ⟨n + 1, ?_⟩
  rw [evalF, if_neg hm]
  simp only [hfn, hb, List.length_nil, h1]
  cases x with
  | exit i => exact (hne i rfl).elim
  | normal => simp only [hr]; split <;> exact ⟨_, _, rfl⟩
  | ret => simp only [hr]; split <;> exact ⟨_, _, rfl⟩

end Go.Proofs.Ytnifldbmflkmpaa.Ev
