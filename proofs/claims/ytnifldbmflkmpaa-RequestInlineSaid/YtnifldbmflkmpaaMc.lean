/-
  Parts, one behind the other: EvQ, EvR, EvT, EvS.
-/
import Derived.Test.YtnifldbmflkmpaaMb
/-
  More steps change no answer; the rules by which a function's run is followed, piece by piece.
-/
namespace Go.Proofs.Ytnifldbmflkmpaa.Ev
open Go
set_option linter.unusedVariables false
set_option linter.unusedSimpArgs false

def CallLe (c c' : CallFn) : Prop := ∀ g vs h r, c g vs h = some r → c' g vs h = some r
theorem CallLe.refl (c : CallFn) : CallLe c c := fun _ _ _ _ h => h

theorem callF_mono {C : Cfg} {c c' : CallFn} (hc : CallLe c c') {g : FuncId} {vs : List AV} {h : Heap} {d : Bool} {r : AV × Heap × Bool} (he : callF C c g vs h d = some r) : callF C c' g vs h d = some r := by
  unfold callF at he ⊢
  split at he
  · exact he
  · split at he
    · split at he
      · rename_i hcl
        rw [if_pos hcl]
        split at he
        · rename_i v h1 d1 hq
          rw [hc _ _ _ _ hq]
          exact he
        · cases he
      · cases he
    · split at he
      · rename_i v h1 d1 hq
        rw [hc _ _ _ _ hq]
        exact he
      · cases he
    · cases he

theorem evalOp_mono {C : Cfg} {c c' : CallFn} (hc : CallLe c c') {base : Nat} {o : Oper} {ρ : Operand → Option AV} {h : Heap} {d : Bool} {r : AV × Heap × Bool} (he : evalOp C c base o ρ h d = some r) : evalOp C c' base o ρ h d = some r := by
  obtain ⟨dst, op, type, pos, after, guard⟩ := o
  cases op with
  | call cl =>
    obtain ⟨callee, args, argTypes⟩ := cl
    simp only [evalOp] at he ⊢
    split at he
    · rename_i vs hvs
      cases callee with
      | builtin b => exact he
      | value f =>
        dsimp only at he ⊢
        cases hg : ρ f with
        | none => rw [hg] at he; cases he
        | some x =>
          rw [hg] at he
          split at he
          · rename_i g first captured hx
            cases hx
            exact callF_mono hc he
          · cases he
      | invoke _ _ => exact he
    · cases he
  | _ => exact he

theorem stepOp_mono {C : Cfg} {c c' : CallFn} (hc : CallLe c c') {base : Nat} {ops : Array Oper} {o : Oper} {st st' : St} (he : stepOp C c base ops o st = some st') : stepOp C c' base ops o st = some st' := by
  unfold stepOp at he ⊢
  split at he
  · rename_i hw
    rw [if_pos hw]
    split at he
    · rename_i hq
      rw [evalOp_mono hc hq]
      exact he
    · cases he
  · rename_i hw
    rw [if_neg hw]
    exact he

theorem evalOps_mono {C : Cfg} {c c' : CallFn} (hc : CallLe c c') {base : Nat} {ops : Array Oper} : ∀ {l : List Oper} {st st' : St}, evalOps C c base ops l st = some st' → evalOps C c' base ops l st = some st'
  | [], _, _, he => he
  | o :: l, st, st', he => by
    simp only [evalOps] at he ⊢
    split at he
    · rename_i s hs
      rw [stepOp_mono hc hs]
      exact evalOps_mono hc he
    · cases he

theorem iter_mono {b b' : St → Option (Ex × St)} (hb : ∀ s r, b s = some r → b' s = some r) : ∀ {n n' : Nat} {st : St} {r : Ex × St}, n ≤ n' → iter b n st = some r → iter b' n' st = some r
  | 0, _, _, _, _, he => by simp [iter] at he
  | n + 1, 0, _, _, hn, _ => by omega
  | n + 1, n' + 1, st, r, hn, he => by
    simp only [iter] at he ⊢
    cases hq : b st with
    | none => rw [hq] at he; cases he
    | some p =>
      rw [hq] at he
      rw [hb _ _ hq]
      obtain ⟨x, s⟩ := p
      cases x with
      | normal => exact iter_mono hb (by omega) he
      | ret => exact he
      | exit i => exact he

theorem evalC_mono {C : Cfg} {c c' : CallFn} (hc : CallLe c c') {base n n' : Nat} (hn : n ≤ n') : ∀ (code : Code) (st : St) (r : Ex × St), evalC C c base n code st = some r → evalC C c' base n' code st = some r
  | .skip, _, _, he => he
  | .label _, _, _, he => he
  | .region _ ops _, st, r, he => by
    simp only [evalC] at he ⊢
    cases hq : evalOps C c base ops ops.toList st with
    | none => rw [hq] at he; cases he
    | some s => rw [evalOps_mono hc hq]; rw [hq] at he; exact he
  | .seq a b, st, r, he => by
    simp only [evalC] at he ⊢
    cases hq : evalC C c base n a st with
    | none => rw [hq] at he; cases he
    | some p =>
      rw [evalC_mono hc hn a st p hq]
      rw [hq] at he
      obtain ⟨x, s⟩ := p
      cases x with
      | normal => exact evalC_mono hc hn b s r he
      | ret => exact he
      | exit i => exact he
  | .cond x a b, st, r, he => by
    simp only [evalC] at he ⊢
    split at he
    · exact evalC_mono hc hn a st r he
    · exact evalC_mono hc hn b st r he
    · cases he
  | .block id body, st, r, he => by
    simp only [evalC] at he ⊢
    cases hq : evalC C c base n body st with
    | none => rw [hq] at he; cases he
    | some p => rw [evalC_mono hc hn body st p hq]; rw [hq] at he; exact he
  | .loop body, st, r, he => by
    simp only [evalC] at he ⊢
    exact iter_mono (fun s q => evalC_mono hc hn body s q) hn he
  | .scope body, st, r, he => by
    simp only [evalC] at he ⊢
    exact evalC_mono hc hn body st r he
  | .exit _, _, _, he => he
  | .ret, _, _, he => he
  | .rangeFunc .., _, _, he => by simp [evalC] at he
  | .goto _, _, _, he => by simp [evalC] at he

theorem evalF_succ {C : Cfg} {k : Nat} (ih : CallLe (evalF C k) (evalF C (k + 1))) : CallLe (evalF C (k + 1)) (evalF C (k + 1 + 1)) := by
  intro f args h r he
  rw [evalF] at he ⊢
  split at he
  · cases he
  · rename_i hm
    rw [if_neg hm]
    split at he
    · cases he
    · rename_i fn hfn
      split at he
      · cases he
      · rename_i c hb
        split at he
        · cases he
        · rename_i x st hne hq
          have := evalC_mono ih (Nat.le_succ k) c _ _ hq
          simp only [hb, this]
          cases x with
          | exit i => exact (hne i rfl).elim
          | normal => exact he
          | ret => exact he
        · cases he

theorem evalF_mono {C : Cfg} : ∀ {k k' : Nat}, k ≤ k' → CallLe (evalF C k) (evalF C k') := by
  have one : ∀ k, CallLe (evalF C k) (evalF C (k + 1)) := by
    intro k
    induction k with
    | zero => intro f args h r he; simp [evalF] at he
    | succ k ih => exact evalF_succ ih
  intro k k' h
  induction h with
  | refl => exact CallLe.refl _
  | step _ ih => exact fun g vs hp r he => one _ g vs hp r (ih g vs hp r he)

/-- A piece of code runs to an end of which Q holds. -/
def Ev (C : Cfg) (base : Nat) (c : Code) (st : St) (Q : Ex → St → Prop) : Prop :=
  ∃ n x st', evalC C (evalF C n) base n c st = some (x, st') ∧ Q x st'
def EvOps (C : Cfg) (base : Nat) (ops : Array Oper) (l : List Oper) (st : St) (Q : St → Prop) : Prop :=
  ∃ n st', evalOps C (evalF C n) base ops l st = some st' ∧ Q st'

def onNormal (R : St → Prop) (Q : Ex → St → Prop) : Ex → St → Prop
  | .normal, s => R s
  | .ret, s => Q .ret s
  | .exit i, s => Q (.exit i) s
def onBlock (id : Nat) (Q : Ex → St → Prop) : Ex → St → Prop
  | .normal, s => Q .normal s
  | .ret, s => Q .ret s
  | .exit i, s => if i = id then Q .normal s else Q (.exit i) s

theorem Ev.at {C : Cfg} {base n n' : Nat} {c : Code} {st st' : St} {x : Ex} (h : evalC C (evalF C n) base n c st = some (x, st')) (hn : n ≤ n') : evalC C (evalF C n') base n' c st = some (x, st') :=
  evalC_mono (evalF_mono hn) hn c st _ h

theorem Ev.mono {C : Cfg} {base : Nat} {c : Code} {st : St} {Q Q' : Ex → St → Prop} (h : Ev C base c st Q) (hq : ∀ x s, Q x s → Q' x s) : Ev C base c st Q' := by
  obtain ⟨n, x, s, h1, h2⟩ := h
  exact ⟨n, x, s, h1, hq x s h2⟩

theorem Ev.skip {C : Cfg} {base : Nat} {st : St} {Q : Ex → St → Prop} (h : Q .normal st) : Ev C base .skip st Q := ⟨0, _, _, rfl, h⟩
theorem Ev.label {C : Cfg} {base l : Nat} {st : St} {Q : Ex → St → Prop} (h : Q .normal st) : Ev C base (.label l) st Q := ⟨0, _, _, rfl, h⟩
theorem Ev.ret {C : Cfg} {base : Nat} {st : St} {Q : Ex → St → Prop} (h : Q .ret st) : Ev C base .ret st Q := ⟨0, _, _, rfl, h⟩
theorem Ev.exit {C : Cfg} {base id : Nat} {st : St} {Q : Ex → St → Prop} (h : Q (.exit id) st) : Ev C base (.exit id) st Q := ⟨0, _, _, rfl, h⟩
theorem Ev.scope {C : Cfg} {base : Nat} {c : Code} {st : St} {Q : Ex → St → Prop} (h : Ev C base c st Q) : Ev C base (.scope c) st Q := by
  obtain ⟨n, x, s, h1, h2⟩ := h
  exact ⟨n, x, s, by rw [evalC]; exact h1, h2⟩

theorem Ev.region {C : Cfg} {base id : Nat} {ops : Array Oper} {b : Bool} {st : St} {Q : Ex → St → Prop} (h : EvOps C base ops ops.toList st (Q .normal)) : Ev C base (.region id ops b) st Q := by
  obtain ⟨n, s, h1, h2⟩ := h
  exact ⟨n, .normal, s, by simp [evalC, h1], h2⟩

theorem Ev.seq {C : Cfg} {base : Nat} {a b : Code} {st : St} {Q : Ex → St → Prop} (h : Ev C base a st (onNormal (fun s => Ev C base b s Q) Q)) : Ev C base (a.seq b) st Q := by
  obtain ⟨n, x, s, h1, h2⟩ := h
  cases x with
  | normal =>
    obtain ⟨n', x', s', h3, h4⟩ := h2
    refine ⟨max n n', x', s', ?_, h4⟩
    rw [evalC, Ev.at h1 (Nat.le_max_left _ _)]
    exact Ev.at h3 (Nat.le_max_right _ _)
  | ret => exact ⟨n, .ret, s, by rw [evalC, h1], h2⟩
  | exit i => exact ⟨n, .exit i, s, by rw [evalC, h1], h2⟩

theorem Ev.cond {C : Cfg} {base : Nat} {x : Operand} {a b : Code} {st : St} {Q : Ex → St → Prop} (v : Bool) (hx : evalOperand st.fr x = some (.bool v)) (h1 : v = true → Ev C base a st Q) (h2 : v = false → Ev C base b st Q) : Ev C base (.cond x a b) st Q := by
  cases v with
  | true =>
    obtain ⟨n, x', s, h3, h4⟩ := h1 rfl
    exact ⟨n, x', s, by rw [evalC, hx]; exact h3, h4⟩
  | false =>
    obtain ⟨n, x', s, h3, h4⟩ := h2 rfl
    exact ⟨n, x', s, by rw [evalC, hx]; exact h3, h4⟩

theorem Ev.block {C : Cfg} {base id : Nat} {c : Code} {st : St} {Q : Ex → St → Prop} (h : Ev C base c st (onBlock id Q)) : Ev C base (.block id c) st Q := by
  obtain ⟨n, x, s, h1, h2⟩ := h
  cases x with
  | normal => exact ⟨n, .normal, s, by rw [evalC, h1], h2⟩
  | ret => exact ⟨n, .ret, s, by rw [evalC, h1], h2⟩
  | exit i =>
    simp only [onBlock] at h2
    by_cases hi : i = id
    · rw [if_pos hi] at h2
      exact ⟨n, .normal, s, by rw [evalC, h1]; simp [hi], h2⟩
    · rw [if_neg hi] at h2
      exact ⟨n, .exit i, s, by rw [evalC, h1]; simp [hi], h2⟩

/-- A loop: I, with a measure. -/
theorem Ev.loop {C : Cfg} {base : Nat} {c : Code} {Q : Ex → St → Prop} (I : Nat → St → Prop) (step : ∀ m st, I m st → Ev C base c st (onNormal (fun s => ∃ m', m' < m ∧ I m' s) Q)) :
    ∀ (m : Nat) (st : St), I m st → Ev C base (.loop c) st Q := by
  intro m
  induction m using Nat.strongRecOn with
  | ind m ih =>
    intro st hi
    obtain ⟨n, x, s, h1, h2⟩ := step m st hi
    cases x with
    | normal =>
      obtain ⟨m', hm, hi'⟩ := h2
      obtain ⟨n', x', s', h3, h4⟩ := ih m' hm s hi'
      refine ⟨max n n' + 1, x', s', ?_, h4⟩
      rw [evalC] at h3 ⊢
      rw [iter, Ev.at h1 (n' := max n n' + 1) (by omega)]
      exact iter_mono (fun s q hq => evalC_mono (evalF_mono (by omega)) (by omega) c s q hq) (Nat.le_max_right n n') h3
    | ret => exact ⟨n + 1, .ret, s, by rw [evalC, iter, Ev.at h1 (n' := n + 1) (by omega)], h2⟩
    | exit i => exact ⟨n + 1, .exit i, s, by rw [evalC, iter, Ev.at h1 (n' := n + 1) (by omega)], h2⟩

theorem EvOps.nil {C : Cfg} {base : Nat} {ops : Array Oper} {st : St} {Q : St → Prop} (h : Q st) : EvOps C base ops [] st Q := ⟨0, st, rfl, h⟩
/-- Operations without a call. -/
theorem EvOps.run {C : Cfg} {base : Nat} {ops : Array Oper} {l : List Oper} {st st' : St} {Q : St → Prop} (h : ∀ call, evalOps C call base ops l st = some st') (hq : Q st') : EvOps C base ops l st Q := ⟨0, st', h _, hq⟩
theorem EvOps.one {C : Cfg} {base : Nat} {ops : Array Oper} {o : Oper} {l : List Oper} {st st' : St} {Q : St → Prop} (h : ∀ call, stepOp C call base ops o st = some st') (hq : EvOps C base ops l st' Q) : EvOps C base ops (o :: l) st Q := by
  obtain ⟨n, s, h1, h2⟩ := hq
  exact ⟨n, s, by rw [evalOps, h]; exact h1, h2⟩

/-- A pure function's answer. -/
def Ret (C : Cfg) (f : FuncId) (as : List AV) (v : AV) : Prop :=
  ∃ k, ∀ vs, stripL vs = as → ∀ h d, callF C (evalF C k) f vs h d = some (v, h, d)

theorem EvOps.call {C : Cfg} {base : Nat} {ops : Array Oper} {o : Oper} {l : List Oper} {st : St} {Q : St → Prop} {g : FuncId} {args : Array Operand} {ts : Array TypeId} {vs as : List AV} {v : AV}
    (hop : o.op = .call ⟨.value (.func g), args, ts⟩) (hw : Region.wanted o (yieldedA ops st.fr) = true) (hargs : args.toList.mapM (evalOperand st.fr) = some vs) (hs : stripL vs = as) (hr : Ret C g as v)
    (hq : EvOps C base ops l (St.put ⟨st.fr, st.h, st.d⟩ o.dst v) Q) : EvOps C base ops (o :: l) st Q := by
  obtain ⟨k, hk⟩ := hr
  obtain ⟨n, s, h1, h2⟩ := hq
  refine ⟨max n k, s, ?_, h2⟩
  have hstep : stepOp C (evalF C (max n k)) base ops o st = some (St.put ⟨st.fr, st.h, st.d⟩ o.dst v) := by
    have hc := callF_mono (C := C) (evalF_mono (Nat.le_max_right n k)) (hk vs hs st.h st.d)
    unfold stepOp
    rw [if_pos hw]
    unfold evalOp
    simp only [hop, hargs, evalOperand, List.nil_append, List.append_nil, hc]
  rw [evalOps, hstep]
  exact evalOps_mono (evalF_mono (Nat.le_max_left _ _)) h1

/-- How a function's body must end. -/
def Done (C : Cfg) (fn : Func) (v : AV) : Ex → St → Prop
  | .exit _, _ => False
  | _, st => ∃ v0, resultsA C.P fn.results.toList st.fr st.h = some v0 ∧ v0.strip = v

theorem Ret.of_body {C : Cfg} {f : FuncId} {fn : Func} {c : Code} {as : List AV} {v : AV} (hp : C.prim f = none) (hm : C.mode f = .pure) (hfn : C.P.funcs[f]? = some fn) (hb : fn.body = some c) (hcl : cleanL 0 as = true) (hv : v.clean 0 = true)
    (h : Ev C 0 c ⟨as ++ List.replicate (fn.ntmps - as.length) .undef, [], false⟩ (Done C fn v)) : Ret C f as v := by
  obtain ⟨n, x, st, h1, h2⟩ := h
  have hF : ∃ h0 d0 v0, evalF C (n + 1) f as [] = some (v0, h0, d0) ∧ v0.strip = v := by
    rw [evalF, if_neg (by rw [hm]; simp)]
    simp only [hfn, hb, List.length_nil, h1]
    cases x with
    | exit i => exact h2.elim
    | normal =>
      obtain ⟨v0, hr, hs⟩ := h2
      simp only [hr]
      split
      · exact ⟨_, _, _, rfl, hs⟩
      · exact ⟨_, _, _, rfl, hs⟩
    | ret =>
      obtain ⟨v0, hr, hs⟩ := h2
      simp only [hr]
      split
      · exact ⟨_, _, _, rfl, hs⟩
      · exact ⟨_, _, _, rfl, hs⟩
  obtain ⟨h0, d0, v0, e1, e2⟩ := hF
  refine ⟨n + 1, fun vs hs h d => ?_⟩
  unfold callF
  simp only [hp, hm, hs, if_pos hcl, e1, e2, if_pos hv]

theorem Ret.of_prim {C : Cfg} {f : FuncId} {p : List AV → Option AV} {as : List AV} {v : AV} (hp : C.prim f = some p) (hcl : cleanL 0 as = true) (hq : p as = some v) (hv : v.clean 0 = true) : Ret C f as v :=
  ⟨0, fun vs hs h d => by unfold callF; simp only [hp, hs, if_pos hcl, hq, Option.bind_some, if_pos hv]⟩

/-- The law itself. -/
theorem law_of_body {C : Cfg} {f : FuncId} {fn : Func} {c : Code} {as : List AV} {v : AV} (hm : C.mode f ≠ .no) (hfn : C.P.funcs[f]? = some fn) (hb : fn.body = some c)
    (h : Ev C 0 c ⟨as ++ List.replicate (fn.ntmps - as.length) .undef, [], false⟩ (fun x st => (∀ i, x ≠ .exit i) ∧ resultsA C.P fn.results.toList st.fr st.h = some v)) : ∃ k h d, evalF C k f as [] = some (v, h, d) := by
  obtain ⟨n, x, st, h1, hne, hr⟩ := h
  refine ⟨n + 1, ?_⟩
  rw [evalF, if_neg hm]
  simp only [hfn, hb, List.length_nil, h1]
  cases x with
  | exit i => exact (hne i rfl).elim
  | normal => simp only [hr]; split <;> exact ⟨_, _, rfl⟩
  | ret => simp only [hr]; split <;> exact ⟨_, _, rfl⟩

end Go.Proofs.Ytnifldbmflkmpaa.Ev

/-
  Following a run: slots, growing lists, calls; what the simplifier knows.
-/
namespace Go.Proofs.Ytnifldbmflkmpaa.Ev
open Go
set_option linter.unusedVariables false
set_option linter.unusedSimpArgs false

theorem stripL_map {α : Type} (f : α → AV) (hf : ∀ a, (f a).strip = f a) : ∀ l : List α, stripL (l.map f) = l.map f
  | [] => by simp only [List.map_nil, stripL]
  | a :: l => by simp only [List.map_cons, stripL, hf a, stripL_map f hf l]
theorem cleanL_map {α : Type} (n : Nat) (f : α → AV) (hf : ∀ a, (f a).clean n = true) : ∀ l : List α, cleanL n (l.map f) = true
  | [] => by simp only [List.map_nil, cleanL]
  | a :: l => by simp only [List.map_cons, cleanL, hf a, cleanL_map n f hf l, Bool.and_self]
@[simp] theorem strip_str (s : List UInt8) : (AV.str s).strip = .str s := by simp only [AV.strip]
@[simp] theorem strip_int (k : IntKind) (n : Int) : (AV.int k n).strip = .int k n := by simp only [AV.strip]
@[simp] theorem strip_bool (b : Bool) : (AV.bool b).strip = .bool b := by simp only [AV.strip]
@[simp] theorem strip_func (fn : Fn) (a b : List AV) : (AV.func fn a b).strip = .func fn (stripL a) (stripL b) := by simp only [AV.strip]
@[simp] theorem strip_agg (l : List AV) : (AV.agg l).strip = .agg (stripL l) := by simp only [AV.strip]
@[simp] theorem strip_tuple (l : List AV) : (AV.tuple l).strip = .tuple (stripL l) := by simp only [AV.strip]
@[simp] theorem strip_nilp : AV.nilp.strip = .nilp := by simp only [AV.strip]
@[simp] theorem strip_nilFunc : AV.nilFunc.strip = .nilFunc := by simp only [AV.strip]
@[simp] theorem strip_nilIface : AV.nilIface.strip = .nilIface := by simp only [AV.strip]
@[simp] theorem strip_rptr (v : AV) : (AV.rptr v).strip = .rptr v.strip := by simp only [AV.strip]
@[simp] theorem strip_iface (t : TypeId) (v : AV) : (AV.iface t v).strip = .iface t v.strip := by simp only [AV.strip]
@[simp] theorem clean_str (n : Nat) (s : List UInt8) : (AV.str s).clean n = true := by simp only [AV.clean]
@[simp] theorem clean_int (m : Nat) (k : IntKind) (n : Int) : (AV.int k n).clean m = true := by simp only [AV.clean]
@[simp] theorem clean_bool (m : Nat) (b : Bool) : (AV.bool b).clean m = true := by simp only [AV.clean]
@[simp] theorem clean_nils (m : Nat) : AV.nils.clean m = true := by simp only [AV.clean]
@[simp] theorem clean_nilp (m : Nat) : AV.nilp.clean m = true := by simp only [AV.clean]
@[simp] theorem clean_nilFunc (m : Nat) : AV.nilFunc.clean m = true := by simp only [AV.clean]
@[simp] theorem clean_nilIface (m : Nat) : AV.nilIface.clean m = true := by simp only [AV.clean]
@[simp] theorem clean_func (n : Nat) (fn : Fn) (a b : List AV) : (AV.func fn a b).clean n = (cleanL n a && cleanL n b) := by simp only [AV.clean]
@[simp] theorem clean_agg (n : Nat) (l : List AV) : (AV.agg l).clean n = cleanL n l := by simp only [AV.clean]
@[simp] theorem clean_tuple (n : Nat) (l : List AV) : (AV.tuple l).clean n = cleanL n l := by simp only [AV.clean]
@[simp] theorem clean_list (n : Nat) (xs : List AV) (nn : Bool) (c : Option Nat) : (AV.list xs nn c none).clean n = cleanL n xs := by simp only [AV.clean, Bool.and_true]
@[simp] theorem strip_nils : AV.nils.strip = .L [] := by simp only [AV.strip]
@[simp] theorem strip_list (xs : List AV) (nn : Bool) (c t : Option Nat) : (AV.list xs nn c t).strip = .list (stripL xs) false none none := by simp only [AV.strip]
@[simp] theorem stripL_nil : stripL [] = [] := by simp only [stripL]
@[simp] theorem stripL_cons (x : AV) (l : List AV) : stripL (x :: l) = x.strip :: stripL l := by simp only [stripL]
@[simp] theorem cleanL_nil (n : Nat) : cleanL n [] = true := by simp only [cleanL]
@[simp] theorem cleanL_cons (n : Nat) (x : AV) (l : List AV) : cleanL n (x :: l) = (x.clean n && cleanL n l) := by simp only [cleanL]
@[simp] theorem stripL_strs (ss : List (List UInt8)) : stripL (ss.map AV.str) = ss.map AV.str := stripL_map _ strip_str ss
@[simp] theorem cleanL_strs (n : Nat) (ss : List (List UInt8)) : cleanL n (ss.map AV.str) = true := cleanL_map n _ (clean_str n) ss

/-- A list of texts; a list of lists of texts. -/
def strs (ss : List (List UInt8)) : AV := .L (ss.map .str)
@[simp] theorem strip_strs (ss : List (List UInt8)) : (strs ss).strip = strs ss := by simp only [strs, strip_list, stripL_strs]
@[simp] theorem clean_strs (n : Nat) (ss : List (List UInt8)) : (strs ss).clean n = true := by simp only [strs, clean_list, cleanL_strs]
@[simp] theorem stripL_strss (ss : List (List (List UInt8))) : stripL (ss.map strs) = ss.map strs := stripL_map _ strip_strs ss
@[simp] theorem cleanL_strss (n : Nat) (ss : List (List (List UInt8))) : cleanL n (ss.map strs) = true := cleanL_map n _ (clean_strs n) ss
def strss (ss : List (List (List UInt8))) : AV := .L (ss.map strs)
@[simp] theorem strip_strss (ss : List (List (List UInt8))) : (strss ss).strip = strss ss := by simp only [strss, strip_list, stripL_strss]
@[simp] theorem clean_strss (n : Nat) (ss : List (List (List UInt8))) : (strss ss).clean n = true := by simp only [strss, clean_list, cleanL_strss]

/-- What lies in a slot. -/
def slotAt (fr : List AV) (t : Nat) : Option AV := fr[t]?
theorem slotAt_set (fr : List AV) (i j : Nat) (v : AV) : slotAt (fr.set i v) j = if i = j then (if i < fr.length then some v else none) else slotAt fr j := by
  unfold slotAt
  rw [List.getElem?_set]
theorem slotAt_zero (a : AV) (l : List AV) : slotAt (a :: l) 0 = some a := rfl
theorem slotAt_succ (a : AV) (l : List AV) (n : Nat) : slotAt (a :: l) (n + 1) = slotAt l n := rfl
theorem slotAt_rep (n j : Nat) (v : AV) : slotAt (List.replicate n v) j = if j < n then some v else none := by
  unfold slotAt
  rw [List.getElem?_replicate]
attribute [simp] slotAt_set slotAt_zero slotAt_succ slotAt_rep
@[simp] theorem op_tmp (fr : List AV) (t : Nat) : evalOperand fr (.tmp t) = slotAt fr t := rfl
@[simp] theorem op_const (fr : List AV) (v : Value) : evalOperand fr (.const v) = ofConst v := rfl
@[simp] theorem op_func (fr : List AV) (f : FuncId) : evalOperand fr (.func f) = some (.func (.func f) [] []) := rfl
@[simp] theorem res_tmp (P : Program) (fr : List AV) (h : Heap) (t : Nat) : resultA P fr h (.tmp t) = slotAt fr t := rfl
@[simp] theorem res_cell (P : Program) (fr : List AV) (h : Heap) (a : Nat) (t : TypeId) : resultA P fr h (.cell a t) = match slotAt fr a with | some v => loadA P t h v | none => none := rfl
@[simp] theorem yielded_look (ops : Array Oper) (fr : List AV) (j : Nat) : yieldedA ops fr j = match ((ops[j]?).bind (·.dst)).bind (slotAt fr ·) with | some (.bool b) => some b | _ => none := rfl
attribute [simp] evalOps stepOp Region.wanted evalOp freshB tokV St.put ofConst ofCell indexAddrA indexA loadA storeA partA fieldA fieldAddrA binA strBin wrapBin shiftA eqA unA lenA convA boundsA intOf? AV.cells AV.one AV.undef onNormal onBlock Done resultsA cls
@[simp] theorem headOk_strs (l : List (List UInt8)) : headOk 1 (l.map .str) = true := by cases l <;> rfl
@[simp] theorem headOk_strss (l : List (List (List UInt8))) : headOk 1 (l.map strs) = true := by cases l <;> rfl
@[simp] theorem headOk_nil (n : Nat) : headOk n [] = true := rfl
@[simp] theorem headOk_cons (n : Nat) (x : AV) (l : List AV) : headOk n (x :: l) = (x.cells.length == n) := rfl
@[simp] theorem nat_le1 (n : Nat) : ((1 : Int) ≤ (n : Int) + 1) = True := eq_true (by omega)
@[simp] theorem nat_le0 (n : Nat) : ((0 : Int) ≤ (n : Int) + 1) = True := eq_true (by omega)
@[simp] theorem nat_lt0 (n : Nat) : ((0 : Int) < (n : Int) + 1) = True := eq_true (by omega)
@[simp] theorem nat_ne0 (n : Nat) : (((n : Int) + 1) = 0) = False := eq_false (by omega)
@[simp] theorem nat_beq0 (n : Nat) : (((n : Int) + 1) == 0) = false := by simp
@[simp] theorem take_map_len {α β : Type} (f : α → β) (l : List α) : (l.map f).take l.length = l.map f := List.take_of_length_le (by simp)

theorem wrap_nat (n : Nat) (h : n < 2 ^ 62) : IntKind.wrap .i64 (n : Int) = n := by
  simp [IntKind.wrap, IntKind.bits, IntKind.signed]; omega
theorem wrap_succ (n : Nat) (h : n < 2 ^ 61) : IntKind.wrap .i64 ((n : Int) + 1) = ((n + 1 : Nat) : Int) := by
  rw [← wrap_nat (n + 1) (by omega)]; simp
theorem wrap_int (n : Int) (h0 : -(2 ^ 62) ≤ n) (h : n < 2 ^ 62) : IntKind.wrap .i64 n = n := by
  simp [IntKind.wrap, IntKind.bits, IntKind.signed]; omega

/-- A list that grows by append. -/
def Grow (n : Nat) (h : Heap) (x : AV) (xs : List AV) : Prop :=
  (x = .nils ∧ xs = []) ∨ (∃ τ, x = .list xs true none (some τ) ∧ h[τ]? = some (.own xs.length n)) ∨ (∃ nn, x = .list xs nn (some xs.length) none)
theorem Grow.nils (n : Nat) (h : Heap) : Grow n h .nils [] := .inl ⟨rfl, rfl⟩
theorem Grow.strip {n : Nat} {h : Heap} {x : AV} {xs : List AV} (g : Grow n h x xs) : x.strip = .L (stripL xs) := by
  rcases g with ⟨rfl, rfl⟩ | ⟨τ, rfl, _⟩ | ⟨nn, rfl⟩ <;> simp
def tokOf : AV → Option Nat
  | .list _ _ _ tok => tok
  | _ => none
/-- What stays when a list grows: all but its own right. -/
structure Stays (x : AV) (h : Heap) (x' : AV) (h' : Heap) : Prop where
  len : h.length ≤ h'.length
  old : ∀ i, i < h.length → tokOf x ≠ some i → h'[i]? = h[i]?
  tok : tokOf x' = tokOf x ∨ ∀ i, tokOf x' = some i → h.length ≤ i

theorem Grow.stays {n : Nat} {h h' : Heap} {x x' y : AV} {xs : List AV} (g : Grow n h y xs) (s : Stays x h x' h') (ht : ∀ i, tokOf y = some i → tokOf x ≠ some i) : Grow n h' y xs := by
  rcases g with g | ⟨τ, rfl, e⟩ | g
  · exact .inl g
  · refine .inr (.inl ⟨τ, rfl, ?_⟩)
    rw [s.old τ (List.getElem?_eq_some_iff.1 e).1 (ht τ rfl)]
    exact e
  · exact .inr (.inr g)

theorem appendA_grow {P : Program} {t u e : TypeId} {n by_ : Nat} {z : AV} {ud : TypeDesc} (ht : P.underlying t = some (.slice e)) (hu : P.underlying u = some ud) (hud : appendable ud = true) (hn : tySize P e = some n) (hb : tyBytes P e = some by_) (hz : tyZero P e = some z) (hzn : z.cells.length = n)
    {h : Heap} {x y : AV} {xs ys : List AV} (g : Grow n h x xs) (hx : headOk n xs = true) (hy : elemsA h n y = some ys) (hlim : (xs.length + ys.length) * by_ ≤ 35184372088832 ∧ xs.length + ys.length ≤ 35184372088832) :
    ∃ x' h' wr, appendA P [t, u] h x y = some (x', h', wr) ∧ Grow n h' x' (xs ++ ys) ∧ Stays x h x' h' ∧ wrDirty 0 wr = false := by
  unfold appendA
  simp only [ht, hu, hud, hn, hb, hz, hy, hzn]
  simp only [ne_eq, not_true, if_false, reduceCtorEq]
  rcases g with ⟨rfl, rfl⟩ | ⟨τ, rfl, hτ⟩ | ⟨nn, rfl⟩
  · simp only [List.length_nil, Nat.zero_add, List.nil_append] at hlim ⊢
    by_cases he : ys.isEmpty = true
    · rw [if_pos he]
      have : ys = [] := List.isEmpty_iff.1 he
      subst this
      exact ⟨_, _, _, rfl, Grow.nils _ _, ⟨Nat.le_refl _, fun _ _ _ => rfl, .inl rfl⟩, rfl⟩
    · rw [if_neg he, if_pos hlim]
      refine ⟨_, _, _, rfl, .inr (.inl ⟨_, rfl, by simp⟩), ⟨by simp, fun i hi _ => by rw [List.getElem?_append_left hi], .inr fun i hi => ?_⟩, rfl⟩
      simp only [tokOf, Option.some.injEq] at hi
      omega
  · by_cases he : ys.isEmpty = true
    · simp only [if_pos he]
      have : ys = [] := List.isEmpty_iff.1 he
      subst this
      exact ⟨_, _, _, rfl, .inr (.inl ⟨τ, by simp, by simpa using hτ⟩), ⟨Nat.le_refl _, fun _ _ _ => rfl, .inl rfl⟩, rfl⟩
    · simp only [if_neg he, hlim, and_self, not_true, if_false, hx, hτ, reduceCtorEq]
      refine ⟨_, _, _, rfl, .inr (.inl ⟨τ, rfl, ?_⟩), ⟨by simp, fun i hi hne => ?_, .inl rfl⟩, by simp [wrDirty]⟩
      · rw [List.getElem?_set_self (List.getElem?_eq_some_iff.1 hτ).1, List.length_append]
      · rw [List.getElem?_set_ne]
        intro e
        exact hne (by simp [tokOf, e])
  · by_cases he : ys.isEmpty = true
    · simp only [if_pos he]
      have : ys = [] := List.isEmpty_iff.1 he
      subst this
      exact ⟨_, _, _, rfl, .inr (.inr ⟨nn, by simp⟩), ⟨Nat.le_refl _, fun _ _ _ => rfl, .inl rfl⟩, rfl⟩
    · simp only [if_neg he, hlim, and_self, not_true, if_false, hx, if_true, reduceCtorEq]
      refine ⟨_, _, _, rfl, .inr (.inl ⟨_, rfl, by simp⟩), ⟨by simp, fun i hi _ => by rw [List.getElem?_append_left hi], .inr fun i hi => ?_⟩, rfl⟩
      simp only [tokOf, Option.some.injEq] at hi
      omega

/-- Operations without a call; of the slots behind them K is kept. -/
theorem EvOps.keep {C : Cfg} {base : Nat} {ops : Array Oper} {l : List Oper} {st : St} {fr' : List AV} {h' : Heap} {d' : Bool} {Q : St → Prop} (K : List AV → Prop) (h : ∀ call, evalOps C call base ops l st = some ⟨fr', h', d'⟩) (hk : K fr') (hq : ∀ fr, K fr → Q ⟨fr, h', d'⟩) : EvOps C base ops l st Q :=
  EvOps.run h (hq fr' hk)

/-- append, of a list that grows. -/
theorem EvOps.append {C : Cfg} {ops : Array Oper} {o : Oper} {l : List Oper} {st : St} {Q : St → Prop} {args : Array Operand} {ts : Array TypeId} {t u e : TypeId} {n by_ : Nat} {z : AV} {ud : TypeDesc} {x y : AV} {xs ys : List AV}
    (hop : o.op = .call ⟨.builtin .append, args, ts⟩) (hts : ts = #[t, u]) (hw : Region.wanted o (yieldedA ops st.fr) = true) (hargs : args.toList.mapM (evalOperand st.fr) = some [x, y])
    (ht : C.P.underlying t = some (.slice e)) (hu : C.P.underlying u = some ud) (hud : appendable ud = true) (hn : tySize C.P e = some n) (hb : tyBytes C.P e = some by_) (hz : tyZero C.P e = some z) (hzn : z.cells.length = n)
    (g : Grow n st.h x xs) (hx : headOk n xs = true) (hy : elemsA st.h n y = some ys) (hlim : (xs.length + ys.length) * by_ ≤ 35184372088832 ∧ xs.length + ys.length ≤ 35184372088832)
    (hq : ∀ x' h', Grow n h' x' (xs ++ ys) → Stays x st.h x' h' → EvOps C 0 ops l (St.put ⟨st.fr, h', st.d⟩ o.dst x') Q) : EvOps C 0 ops (o :: l) st Q := by
  obtain ⟨x', h', wr, e1, e2, e3, e4⟩ := appendA_grow ht hu hud hn hb hz hzn g hx hy hlim
  refine EvOps.one (st' := St.put ⟨st.fr, h', st.d⟩ o.dst x') (fun call => ?_) (hq x' h' e2 e3)
  subst hts
  have : evalOp C call 0 o (evalOperand st.fr) st.h st.d = some (x', h', st.d) := by
    unfold evalOp
    simp only [hop, hargs, e1, Option.map_some, e4, Bool.or_false]
  unfold stepOp
  rw [if_pos hw]
  simp only [this]

/-- A call of a value that is a function. -/
theorem EvOps.callv {C : Cfg} {base : Nat} {ops : Array Oper} {o : Oper} {l : List Oper} {st : St} {Q : St → Prop} {f : Operand} {g : FuncId} {first captured : List AV} {args : Array Operand} {ts : Array TypeId} {vs as : List AV} {v : AV}
    (hop : o.op = .call ⟨.value f, args, ts⟩) (hf : evalOperand st.fr f = some (.func (.func g) first captured)) (hw : Region.wanted o (yieldedA ops st.fr) = true) (hargs : args.toList.mapM (evalOperand st.fr) = some vs) (hs : stripL (first ++ vs ++ captured) = as) (hr : Ret C g as v)
    (hq : EvOps C base ops l (St.put ⟨st.fr, st.h, st.d⟩ o.dst v) Q) : EvOps C base ops (o :: l) st Q := by
  obtain ⟨k, hk⟩ := hr
  obtain ⟨n, s, h1, h2⟩ := hq
  refine ⟨max n k, s, ?_, h2⟩
  have hstep : stepOp C (evalF C (max n k)) base ops o st = some (St.put ⟨st.fr, st.h, st.d⟩ o.dst v) := by
    have hc := callF_mono (C := C) (evalF_mono (Nat.le_max_right n k)) (hk _ hs st.h st.d)
    unfold stepOp
    rw [if_pos hw]
    unfold evalOp
    simp only [hop, hargs, hf, hc]
  rw [evalOps, hstep]
  exact evalOps_mono (evalF_mono (Nat.le_max_left _ _)) h1

theorem Ret.of_eval {C : Cfg} {f : FuncId} {as : List AV} {v v0 : AV} {k : Nat} {h' : Heap} {d' : Bool} (hp : C.prim f = none) (hm : C.mode f = .pure) (hcl : cleanL 0 as = true) (hv : v.clean 0 = true)
    (he : evalF C k f as [] = some (v0, h', d')) (hs : v0.strip = v) : Ret C f as v :=
  ⟨k, fun vs e h d => by unfold callF; simp only [hp, hm, e, if_pos hcl, he, hs, if_pos hv]⟩

/-- The operations ahead of one that is taken by a rule of its own. -/
theorem EvOps.cut {C : Cfg} {base : Nat} {ops : Array Oper} {l1 l2 : List Oper} {st : St} {Q : St → Prop} (h : EvOps C base ops l1 st (fun s => EvOps C base ops l2 s Q)) : EvOps C base ops (l1 ++ l2) st Q := by
  obtain ⟨n, s, h1, n', s', h2, h3⟩ := h
  refine ⟨max n n', s', ?_, h3⟩
  have key : ∀ (l1 : List Oper) (st : St) (call : CallFn), evalOps C call base ops l1 st = some s → evalOps C call base ops (l1 ++ l2) st = evalOps C call base ops l2 s := by
    intro l1
    induction l1 with
    | nil => intro st call e; simp only [evalOps, Option.some.injEq] at e; subst e; rfl
    | cons o l ih =>
      intro st call e
      simp only [List.cons_append, evalOps] at e ⊢
      split at e
      · exact ih _ _ e
      · cases e
  rw [key l1 st _ (evalOps_mono (evalF_mono (Nat.le_max_left _ _)) h1)]
  exact evalOps_mono (evalF_mono (Nat.le_max_right _ _)) h2
/-- The first k operations. -/
theorem EvOps.take (k : Nat) {C : Cfg} {base : Nat} {ops : Array Oper} {l : List Oper} {st : St} {Q : St → Prop} (h : EvOps C base ops (l.take k) st (fun s => EvOps C base ops (l.drop k) s Q)) : EvOps C base ops l st Q := by
  have := EvOps.cut h
  rwa [List.take_append_drop] at this

end Go.Proofs.Ytnifldbmflkmpaa.Ev

/-
  Calls of functions that look at, or change, their caller's small heap.
-/
namespace Go.Proofs.Ytnifldbmflkmpaa.Ev
open Go
set_option linter.unusedVariables false
set_option linter.unusedSimpArgs false

/-- The answer of a function that is not pure: value, heap, whether something of the caller's was written. -/
def RetI (C : Cfg) (f : FuncId) (vs : List AV) (h : Heap) (Q : AV → Heap → Bool → Prop) : Prop :=
  ∃ k v h' d', (∀ d, callF C (evalF C k) f vs h d = some (v, h', d || d')) ∧ Q v h' d'

theorem RetI.mono {C : Cfg} {f : FuncId} {vs : List AV} {h : Heap} {Q Q' : AV → Heap → Bool → Prop} (r : RetI C f vs h Q) (hq : ∀ v h' d', Q v h' d' → Q' v h' d') : RetI C f vs h Q' := by
  obtain ⟨k, v, h', d', e, q⟩ := r
  exact ⟨k, v, h', d', e, hq _ _ _ q⟩

/-- How such a function's body must end. -/
def DoneI (C : Cfg) (fn : Func) (h : Heap) (Q : AV → Heap → Bool → Prop) : Ex → St → Prop
  | .exit _, _ => False
  | _, st => ∃ v, resultsA C.P fn.results.toList st.fr st.h = some v ∧ if (!st.d && v.clean h.length) = true then Q v h false else Q v st.h st.d

theorem RetI.of_body {C : Cfg} {f : FuncId} {fn : Func} {c : Code} {vs : List AV} {h : Heap} {Q : AV → Heap → Bool → Prop} (hp : C.prim f = none) (hm : C.mode f = .impure) (hfn : C.P.funcs[f]? = some fn) (hb : fn.body = some c)
    (hev : Ev C h.length c ⟨vs ++ List.replicate (fn.ntmps - vs.length) .undef, h, false⟩ (DoneI C fn h Q)) : RetI C f vs h Q := by
  obtain ⟨n, x, st, h1, h2⟩ := hev
  have hF : ∃ v h' d', evalF C (n + 1) f vs h = some (v, h', d') ∧ Q v h' d' := by
    rw [evalF, if_neg (by rw [hm]; simp)]
    simp only [hfn, hb, h1]
    cases x with
    | exit i => exact h2.elim
    | normal =>
      obtain ⟨v, hr, hs⟩ := h2
      simp only [hr]
      split
      · rename_i hc; rw [if_pos hc] at hs; exact ⟨_, _, _, rfl, hs⟩
      · rename_i hc; rw [if_neg hc] at hs; exact ⟨_, _, _, rfl, hs⟩
    | ret =>
      obtain ⟨v, hr, hs⟩ := h2
      simp only [hr]
      split
      · rename_i hc; rw [if_pos hc] at hs; exact ⟨_, _, _, rfl, hs⟩
      · rename_i hc; rw [if_neg hc] at hs; exact ⟨_, _, _, rfl, hs⟩
  obtain ⟨v, h', d', e1, e2⟩ := hF
  exact ⟨n + 1, v, h', d', fun d => by unfold callF; simp only [hp, hm, e1], e2⟩

/-- A call of such a function (by name: first, captured are empty; or a function value). -/
theorem EvOps.calli {C : Cfg} {base : Nat} {ops : Array Oper} {o : Oper} {l : List Oper} {st : St} {Q : St → Prop} {Q' : AV → Heap → Bool → Prop} {f : Operand} {g : FuncId} {first captured : List AV} {args : Array Operand} {ts : Array TypeId} {vs : List AV}
    (hop : o.op = .call ⟨.value f, args, ts⟩) (hf : evalOperand st.fr f = some (.func (.func g) first captured)) (hw : Region.wanted o (yieldedA ops st.fr) = true) (hargs : args.toList.mapM (evalOperand st.fr) = some vs) (hr : RetI C g (first ++ vs ++ captured) st.h Q')
    (hq : ∀ v h' d', Q' v h' d' → EvOps C base ops l (St.put ⟨st.fr, h', st.d || d'⟩ o.dst v) Q) : EvOps C base ops (o :: l) st Q := by
  obtain ⟨k, v, h', d', hk, hv⟩ := hr
  obtain ⟨n, s, h1, h2⟩ := hq v h' d' hv
  refine ⟨max n k, s, ?_, h2⟩
  have hstep : stepOp C (evalF C (max n k)) base ops o st = some (St.put ⟨st.fr, h', st.d || d'⟩ o.dst v) := by
    have hc := callF_mono (C := C) (evalF_mono (Nat.le_max_right n k)) (hk st.d)
    unfold stepOp
    rw [if_pos hw]
    unfold evalOp
    simp only [hop, hargs, hf, hc]
  rw [evalOps, hstep]
  exact evalOps_mono (evalF_mono (Nat.le_max_left _ _)) h1

theorem appendA_growB {P : Program} {base : Nat} {t u e : TypeId} {n by_ : Nat} {z : AV} {ud : TypeDesc} (ht : P.underlying t = some (.slice e)) (hu : P.underlying u = some ud) (hud : appendable ud = true) (hn : tySize P e = some n) (hb : tyBytes P e = some by_) (hz : tyZero P e = some z) (hzn : z.cells.length = n)
    {h : Heap} {x y : AV} {xs ys : List AV} (g : Grow n h x xs) (hx : headOk n xs = true) (hy : elemsA h n y = some ys) (hlim : (xs.length + ys.length) * by_ ≤ 35184372088832 ∧ xs.length + ys.length ≤ 35184372088832) (hbase : base ≤ h.length) :
    ∃ x' h' wr, appendA P [t, u] h x y = some (x', h', wr) ∧ Grow n h' x' (xs ++ ys) ∧ Stays x h x' h' ∧ (ys ≠ [] → wrDirty base wr = true ∨ ∃ i, tokOf x' = some i ∧ base ≤ i) := by
  unfold appendA
  simp only [ht, hu, hud, hn, hb, hz, hy, hzn]
  simp only [ne_eq, not_true, if_false, reduceCtorEq]
  rcases g with ⟨rfl, rfl⟩ | ⟨τ, rfl, hτ⟩ | ⟨nn, rfl⟩
  · simp only [List.length_nil, Nat.zero_add, List.nil_append] at hlim ⊢
    by_cases he : ys.isEmpty = true
    · rw [if_pos he]
      have : ys = [] := List.isEmpty_iff.1 he
      subst this
      exact ⟨_, _, _, rfl, Grow.nils _ _, ⟨Nat.le_refl _, fun _ _ _ => rfl, .inl rfl⟩, fun h => (h rfl).elim⟩
    · rw [if_neg he, if_pos hlim]
      refine ⟨_, _, _, rfl, .inr (.inl ⟨_, rfl, by simp⟩), ⟨by simp, fun i hi _ => by rw [List.getElem?_append_left hi], .inr fun i hi => ?_⟩, fun _ => .inr ⟨_, rfl, hbase⟩⟩
      simp only [tokOf, Option.some.injEq] at hi
      omega
  · by_cases he : ys.isEmpty = true
    · simp only [if_pos he]
      have : ys = [] := List.isEmpty_iff.1 he
      subst this
      exact ⟨_, _, _, rfl, .inr (.inl ⟨τ, by simp, by simpa using hτ⟩), ⟨Nat.le_refl _, fun _ _ _ => rfl, .inl rfl⟩, fun h => (h rfl).elim⟩
    · simp only [if_neg he, hlim, and_self, not_true, if_false, hx, hτ, reduceCtorEq]
      refine ⟨_, _, _, rfl, .inr (.inl ⟨τ, rfl, ?_⟩), ⟨by simp, fun i hi hne => ?_, .inl rfl⟩, fun _ => ?_⟩
      · rw [List.getElem?_set_self (List.getElem?_eq_some_iff.1 hτ).1, List.length_append]
      · rw [List.getElem?_set_ne]
        intro e
        exact hne (by simp [tokOf, e])
      · by_cases hb : τ < base
        · left; simp [wrDirty, hb]
        · right; exact ⟨τ, rfl, by omega⟩
  · by_cases he : ys.isEmpty = true
    · simp only [if_pos he]
      have : ys = [] := List.isEmpty_iff.1 he
      subst this
      exact ⟨_, _, _, rfl, .inr (.inr ⟨nn, by simp⟩), ⟨Nat.le_refl _, fun _ _ _ => rfl, .inl rfl⟩, fun h => (h rfl).elim⟩
    · simp only [if_neg he, hlim, and_self, not_true, if_false, hx, if_true, reduceCtorEq]
      refine ⟨_, _, _, rfl, .inr (.inl ⟨_, rfl, by simp⟩), ⟨by simp, fun i hi _ => by rw [List.getElem?_append_left hi], .inr fun i hi => ?_⟩, fun _ => .inr ⟨_, rfl, hbase⟩⟩
      simp only [tokOf, Option.some.injEq] at hi
      omega

/-- append, of a list that grows, over any base. -/
theorem EvOps.appendB {C : Cfg} {base : Nat} {ops : Array Oper} {o : Oper} {l : List Oper} {st : St} {Q : St → Prop} {args : Array Operand} {ts : Array TypeId} {t u e : TypeId} {n by_ : Nat} {z : AV} {ud : TypeDesc} {x y : AV} {xs ys : List AV}
    (hop : o.op = .call ⟨.builtin .append, args, ts⟩) (hts : ts = #[t, u]) (hw : Region.wanted o (yieldedA ops st.fr) = true) (hargs : args.toList.mapM (evalOperand st.fr) = some [x, y])
    (ht : C.P.underlying t = some (.slice e)) (hu : C.P.underlying u = some ud) (hud : appendable ud = true) (hn : tySize C.P e = some n) (hb : tyBytes C.P e = some by_) (hz : tyZero C.P e = some z) (hzn : z.cells.length = n)
    (g : Grow n st.h x xs) (hx : headOk n xs = true) (hy : elemsA st.h n y = some ys) (hlim : (xs.length + ys.length) * by_ ≤ 35184372088832 ∧ xs.length + ys.length ≤ 35184372088832) (hbase : base ≤ st.h.length)
    (hq : ∀ x' h' d', Grow n h' x' (xs ++ ys) → Stays x st.h x' h' → (ys ≠ [] → d' = true ∨ ∃ i, tokOf x' = some i ∧ base ≤ i) → EvOps C base ops l (St.put ⟨st.fr, h', st.d || d'⟩ o.dst x') Q) : EvOps C base ops (o :: l) st Q := by
  obtain ⟨x', h', wr, e1, e2, e3, e4⟩ := appendA_growB (base := base) ht hu hud hn hb hz hzn g hx hy hlim hbase
  refine EvOps.one (st' := St.put ⟨st.fr, h', st.d || wrDirty base wr⟩ o.dst x') (fun call => ?_) (hq x' h' _ e2 e3 e4)
  subst hts
  have : evalOp C call base o (evalOperand st.fr) st.h st.d = some (x', h', st.d || wrDirty base wr) := by
    unfold evalOp
    simp only [hop, hargs, e1, Option.map_some]
  unfold stepOp
  rw [if_pos hw]
  simp only [this]
theorem not_clean {x : AV} {n i : Nat} (h : tokOf x = some i) (hi : n ≤ i) : x.clean n = false := by
  cases x <;> simp only [tokOf, reduceCtorEq] at h
  subst h
  simp [AV.clean, hi]
@[simp] theorem heap_last (h : Heap) (x : AO) : (h ++ [x])[h.length]? = some x := by simp
theorem EvOps.mono {C : Cfg} {base : Nat} {ops : Array Oper} {l : List Oper} {st : St} {Q Q' : St → Prop} (h : EvOps C base ops l st Q) (hq : ∀ s, Q s → Q' s) : EvOps C base ops l st Q' := by
  obtain ⟨n, s, h1, h2⟩ := h
  exact ⟨n, s, h1, hq s h2⟩
/-- The first k operations, and what is kept of them. -/
theorem EvOps.mid (k : Nat) {C : Cfg} {base : Nat} {ops : Array Oper} {l : List Oper} {st : St} {Q : St → Prop} (K : St → Prop) (h1 : EvOps C base ops (l.take k) st K) (h2 : ∀ s, K s → EvOps C base ops (l.drop k) s Q) : EvOps C base ops l st Q :=
  EvOps.take k (h1.mono h2)
/-- A piece of code, and what is kept of it. -/
theorem Ev.mid {C : Cfg} {base : Nat} {a b : Code} {st : St} {Q : Ex → St → Prop} (K : St → Prop) (h1 : Ev C base a st (onNormal K Q)) (h2 : ∀ s, K s → Ev C base b s Q) : Ev C base (a.seq b) st Q :=
  Ev.seq (h1.mono fun x s h => by cases x <;> first | exact h2 s h | exact h)
theorem Grow.push {n : Nat} {h : Heap} {x : AV} {xs : List AV} (g : Grow n h x xs) (o : AO) : Grow n (h ++ [o]) x xs := by
  rcases g with g | ⟨τ, rfl, e⟩ | g
  · exact .inl g
  · refine .inr (.inl ⟨τ, rfl, ?_⟩)
    rw [List.getElem?_append_left (List.getElem?_eq_some_iff.1 e).1]
    exact e
  · exact .inr (.inr g)
theorem Grow.set {n : Nat} {h : Heap} {x : AV} {xs : List AV} (g : Grow n h x xs) (q : Nat) (y : AO) (hne : ∀ i, tokOf x = some i → i ≠ q) : Grow n (h.set q y) x xs := by
  rcases g with g | ⟨τ, rfl, e⟩ | g
  · exact .inl g
  · refine .inr (.inl ⟨τ, rfl, ?_⟩)
    rw [List.getElem?_set_ne (fun h => hne τ rfl h.symm)]
    exact e
  · exact .inr (.inr g)
theorem Grow.tok_lt {n : Nat} {h : Heap} {x : AV} {xs : List AV} (g : Grow n h x xs) {i : Nat} (e : tokOf x = some i) : i < h.length := by
  rcases g with ⟨rfl, _⟩ | ⟨τ, rfl, e'⟩ | ⟨nn, rfl⟩
  · simp [tokOf] at e
  · simp only [tokOf, Option.some.injEq] at e
    subst e
    exact (List.getElem?_eq_some_iff.1 e').1
  · simp [tokOf] at e
theorem Stays.refl (x : AV) (h : Heap) : Stays x h x h := ⟨Nat.le_refl _, fun _ _ _ => rfl, .inl rfl⟩
theorem Stays.trans {x x' x'' : AV} {h h' h'' : Heap} (s : Stays x h x' h') (t : Stays x' h' x'' h'') : Stays x h x'' h'' where
  len := Nat.le_trans s.len t.len
  old := fun i hi hne => by
    rw [t.old i (Nat.lt_of_lt_of_le hi s.len) ?_, s.old i hi hne]
    intro e
    rcases s.tok with q | q
    · exact hne (by rw [← q]; exact e)
    · have := q i e; omega
  tok := by
    rcases t.tok with q | q
    · rcases s.tok with p | p
      · exact .inl (q.trans p)
      · exact .inr fun i e => p i (by rw [← q]; exact e)
    · exact .inr fun i e => Nat.le_trans s.len (q i e)
theorem Stays.push (x : AV) (h : Heap) (o : AO) : Stays x h x (h ++ [o]) := ⟨by simp, fun i hi _ => by rw [List.getElem?_append_left hi], .inl rfl⟩
theorem loud {d : Bool} {x : AV} {n : Nat} (h : d = true ∨ ∃ i, tokOf x = some i ∧ n ≤ i) : (!d && x.clean n) = false := by
  rcases h with rfl | ⟨i, e, hi⟩
  · rfl
  · rw [not_clean e hi, Bool.and_false]
@[simp] theorem heap_set_last (h : Heap) (x y : AO) : (h ++ [x]).set h.length y = h ++ [y] := by
  rw [List.set_append_right _ _ (Nat.le_refl _)]; simp
theorem heap_old {h : Heap} {x : AO} {i : Nat} {y : AO} (e : h[i]? = some y) : (h ++ [x])[i]? = some y := by
  rw [List.getElem?_append_left (List.getElem?_eq_some_iff.1 e).1]; exact e
theorem loud_if {d : Bool} {x : AV} {n : Nat} {p q : Prop} (h : d = true ∨ ∃ i, tokOf x = some i ∧ n ≤ i) (hq : q) : if (!d && x.clean n) = true then p else q := by
  rw [if_neg (by rw [loud h]; simp)]; exact hq
theorem quiet_if {x : AV} {n : Nat} {p q : Prop} (h : x.clean n = true) (hp : p) : if (!false && x.clean n) = true then p else q := by
  rw [if_pos (by rw [h]; rfl)]; exact hp
end Go.Proofs.Ytnifldbmflkmpaa.Ev

/-
  A function of one list that asks whether the list is nil: its contract, from two runs.
-/
namespace Go.Proofs.Ytnifldbmflkmpaa.Ev
open Go
set_option linter.unusedVariables false
set_option linter.unusedSimpArgs false

theorem run_of_body {C : Cfg} {f : FuncId} {fn : Func} {c : Code} {args : List AV} {v : AV} (hm : C.mode f ≠ .no) (hfn : C.P.funcs[f]? = some fn) (hb : fn.body = some c)
    (h : Ev C 0 c ⟨args ++ List.replicate (fn.ntmps - args.length) .undef, [], false⟩ (Done C fn v)) : ∃ k v0 h d, evalF C k f args [] = some (v0, h, d) ∧ v0.strip = v := by
  obtain ⟨n, x, st, h1, h2⟩ := h
  refine ⟨n + 1, ?_⟩
  rw [evalF, if_neg hm]
  simp only [hfn, hb, List.length_nil, h1]
  cases x with
  | exit i => exact h2.elim
  | normal => obtain ⟨v0, hr, hs⟩ := h2; simp only [hr]; split <;> exact ⟨_, _, _, rfl, hs⟩
  | ret => obtain ⟨v0, hr, hs⟩ := h2; simp only [hr]; split <;> exact ⟨_, _, _, rfl, hs⟩

/-- A call from a memory without a small heap. -/
theorem res_of_run {C1 : Cfg} (hC : CfgOk C1) (hB : BodiesOk C1) (hmix : C1.P.follows .mixedOrders = true) {g : FuncId} (hm : C1.mode g ≠ .no) {vs : List AV} {r v0 : AV} {k : Nat} {h' : Heap} {d' : Bool} (he : evalF C1 k g vs [] = some (v0, h', d')) (hs : v0.strip = r) (hr : r.clean 0 = true)
    (hcl : cleanL 0 vs = true) {m : M} {w : World} {us : Array Value} (hi : Inv m [] w) (hv : VRelL m vs us.toList) : Res C1.P ((callFunc g us).run C1.P w) (fun u w' => ∃ m', Step w.heap.size m [] w m' [] w' ∧ VRel m' r u) := by
  rw [callFunc_enter hC hm]
  simp only [Res]
  have hb : VRelL m.bare vs us.toList := by rw [← bare_upto]; exact VRelL.upto _ _ hcl hv
  obtain ⟨k1, _⟩ := evalF_ok hC hB hmix k g vs [] _ _ _ he m.bare w us hi.bare hb
  refine k1.mono ?_
  rintro e w'' ⟨u, rfl, m1, s, hu⟩
  subst hs
  exact ⟨u, rfl, _, Step.pure hi s, VRel.mono (M.bare_le m1.F m) _ _ (VRel.bare hr hu)⟩

theorem list_or_nil {m : M} {xs : List AV} {nn : Bool} {cap tok : Option Nat} {v : Value} (h : VRel m (.list xs nn cap tok) v) : (xs = [] ∧ VRel m .nils v) ∨ VRel m (.list xs true none none) v := by
  simp only [VRel] at h ⊢
  rcases h with ⟨h1, _, _, _, h2⟩ | ⟨a, cap', cvs, s, h1, h2, h3, h4, h5, h6, h7, h8⟩
  · exact .inl ⟨h1, h2⟩
  · exact .inr (.inr ⟨a, cap', cvs, s, h1, h2, h3, h4, h5, h6, by simp, by simp⟩)

theorem res_of_two {C1 : Cfg} (hC : CfgOk C1) (hB : BodiesOk C1) (hmix : C1.P.follows .mixedOrders = true) {g : FuncId} (hm : C1.mode g ≠ .no) {xs : List AV} {nn : Bool} {cap tok : Option Nat} {r : AV} (hr : r.clean 0 = true) (hcl : cleanL 0 xs = true)
    (h0 : xs = [] → ∃ k v0 h d, evalF C1 k g [.nils] [] = some (v0, h, d) ∧ v0.strip = r) (h1 : ∃ k v0 h d, evalF C1 k g [.list xs true none none] [] = some (v0, h, d) ∧ v0.strip = r)
    {m : M} {w : World} {us : Array Value} (hi : Inv m [] w) (hv : VRelL m [.list xs nn cap tok] us.toList) : Res C1.P ((callFunc g us).run C1.P w) (fun u w' => ∃ m', Step w.heap.size m [] w m' [] w' ∧ VRel m' r u) := by
  simp only [VRelL] at hv
  obtain ⟨v, vs, e, hv, rfl⟩ := hv
  rcases list_or_nil hv with ⟨hx, hv⟩ | hv
  · obtain ⟨k, v0, h, d, he, hs⟩ := h0 hx
    exact res_of_run hC hB hmix hm he hs hr (by simp) hi (by rw [e]; exact .cons hv .nil)
  · obtain ⟨k, v0, h, d, he, hs⟩ := h1
    exact res_of_run hC hB hmix hm he hs hr (by simp [hcl]) hi (by rw [e]; exact .cons hv .nil)

/-- A function of the library's, or a walk by the kit's rules, that leaves all that was there. -/
theorem Step.below {m : M} {w w' : World} (hi : Inv m [] w) (hb : RowKit.Below w.heap.size w w') : Step w.heap.size m [] w m [] w' where
  le := M.le.refl m
  inv := ⟨fun a v e => by have h := hi.f a v e; rw [hb.cell (World.block_lt_of_cell? w a h)]; exact h, hi.fone, fun i cs e => by simp at e, fun i j cs ds c e => by simp at e, fun i n sz e => by simp at e, hi.apart, hi.mu, hi.rho, hi.cur⟩
  size := hb.size
  os := hb.os
  tape := hb.tape
  output := hb.output
  frame := fun c hc _ => hb.block c hc
  touch := fun _ h => .inl h
  fnew := fun _ _ h => .inl h
theorem res_enter {P : Program} {g : FuncId} {us : Array Value} {w : World} {K : Value → World → Prop} (he : ∀ args w, (callFunc g args).run P w = .ok (.enter g args) w)
    (h : Calls P g us w fun e w' => ∃ v, e = .returned v ∧ K v w') : Res P ((callFunc g us).run P w) K := by
  rw [he]; exact h

theorem vcells_one {v : Value} (h : v.oneCell' = true) : VCells v = [v] := by
  cases v <;> first | rfl | (simp [Value.oneCell'] at h)
/-- .. and hands back a slice over a row of its own. -/
theorem Step.row {m : M} {w w' : World} (hi : Inv m [] w) (hb : RowKit.Below w.heap.size w w') {e : TypeId} {v : Value} {n : Nat} {cells : List Value} (ho : w'.ownsRow w.heap.size e 1 v n cells) (h1 : ∀ c ∈ cells, c.oneCell' = true) {xs : List AV} (hr : VRelL m xs cells) :
    ∃ m', Step w.heap.size m [] w m' [] w' ∧ VRel m' (.L xs) v := by
  have hlen := hr.length
  have hcl : cells.length = n := by simpa using ho.1
  rcases ho.2 with ⟨rfl, hn⟩ | ⟨g, cap, cur, rfl, hbg, hg, hnc, hcm, hcs, htake⟩
  · have hx : xs = [] := List.eq_nil_of_length_eq_zero (by omega)
    exact ⟨m, Step.below hi hb, by simp [VRel, hx]⟩
  · have s1 := Step.below hi hb
    have hcell : ∀ i u, cells[i]? = some u → w'.cell? ⟨g, i, none⟩ = some u := by
      intro i u hu
      rw [← htake, List.getElem?_take] at hu
      split at hu
      · simp only [World.cell?, hg]
        simpa using hu
      · cases hu
    have s2 := Step.fro (B := w.heap.size) s1.inv (fun a => if a.block = g ∧ a.spot = none then cells[a.off]? else none)
      (fun a u hu => by
        split at hu
        · rename_i hc
          obtain ⟨b, o, sp⟩ := a
          simp only at hc hu
          obtain ⟨rfl, rfl⟩ := hc
          exact hcell o u hu
        · cases hu)
      (fun a u hu => by
        split at hu
        · exact h1 u (List.mem_of_getElem? hu)
        · cases hu)
      (fun a u hu k cs hk => by simp at hk) (fun i n sz a cap hk => by simp at hk)
      (fun a u hu => by
        split at hu
        · rename_i hc; exact .inl (by rw [hc.1]; exact hbg)
        · cases hu)
    refine ⟨_, s1.trans s2, ?_⟩
    simp only [VRel]
    refine .inr ⟨⟨g, 0, none⟩, cap, cells, 1, by rw [← hlen, hcl], fun _ => rfl, by omega, VRelL.mono s2.le _ _ hr, fun c hc => by rw [vcells_one (h1 c hc)]; rfl, ?_, by simp, by simp⟩
    have hfl : cells.flatMap VCells = cells := by
      clear hr hlen hcl htake hcell s2 ho
      induction cells with
      | nil => rfl
      | cons c l ih => rw [List.flatMap_cons, vcells_one (h1 c (by simp)), ih (fun c hc => h1 c (List.mem_cons_of_mem _ hc))]; rfl
    rw [hfl]
    intro i u hu
    simp only [Nat.zero_add]
    cases hF : m.F ⟨g, i, none⟩ with
    | none => simpa using hu
    | some u' =>
      have e1 := s1.inv.f _ _ hF
      rw [hcell i u hu] at e1
      simpa using e1.symm

/-- A configuration without contracts whose functions the kernel has looked through. -/
def fnsOk (C : Cfg) (l : List Nat) : Bool := l.all fun f => match C.P.funcs[f]? with
  | some fn => (match fn.body with | some c => drawsOk C c | none => false) && decide (fn.name ≠ "runtime.NumGoroutine")
  | none => false
theorem fnsOk_at {C : Cfg} {l : List Nat} (h : fnsOk C l = true) {f : Nat} (hf : f ∈ l) : ∃ fn c, C.P.funcs[f]? = some fn ∧ fn.body = some c ∧ fn.name ≠ "runtime.NumGoroutine" ∧ drawsOk C c = true := by
  have := List.all_eq_true.1 h f hf
  split at this
  · rename_i fn hfn
    simp only [Bool.and_eq_true, decide_eq_true_eq] at this
    obtain ⟨h1, h2⟩ := this
    split at h1
    · rename_i c hc; exact ⟨fn, c, hfn, hc, h2, h1⟩
    · cases h1
  · cases this
theorem bodiesOk_of {C : Cfg} {l : List Nat} (h : fnsOk C l = true) (hl : ∀ f, C.mode f ≠ .no → f ∈ l) : BodiesOk C := by
  intro f fn c hm hfn hc
  obtain ⟨fn', c', e1, e2, _, e3⟩ := fnsOk_at h (hl f hm)
  rw [hfn] at e1
  cases e1
  rw [hc] at e2
  cases e2
  exact e3
theorem cfgOk_of {C : Cfg} {l : List Nat} (hp : PrimSpec C) (h : fnsOk C l = true) (hl : ∀ f, C.mode f ≠ .no → f ∈ l) : CfgOk C :=
  ⟨hp, fun f hm => let ⟨fn, c, e1, e2, e3, _⟩ := fnsOk_at h (hl f hm); ⟨fn, c, e1, e2, e3⟩⟩
theorem primSpec_none {C : Cfg} (h : ∀ g, C.prim g = none) : PrimSpec C := fun g p hp => by rw [h g] at hp; cases hp

end Go.Proofs.Ytnifldbmflkmpaa.Ev
