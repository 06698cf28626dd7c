/-
  Regions whose order is drawn: the text's order serves every order.
-/
import Derived.Test.YtnifldbmflkmpaaEvM
namespace Go.Proofs.Ytnifldbmflkmpaa.Ev
open Go
set_option linter.unusedVariables false
set_option linter.unusedSimpArgs false

theorem list_mapM_congr {α β : Type} {f g : α → Option β} : ∀ (l : List α), (∀ x ∈ l, f x = g x) → l.mapM f = l.mapM g
  | [], _ => rfl
  | x :: l, h => by rw [List.mapM_cons, List.mapM_cons, h x (by simp), list_mapM_congr l (fun y hy => h y (by simp [hy]))]

theorem evalOp_congr {C : Cfg} {call : CallFn} {base : Nat} {o : Oper} {ρ ρ' : Operand → Option AV} {h : Heap} {d : Bool} (hρ : ∀ x ∈ o.op.operands, ρ x = ρ' x) :
    evalOp C call base o ρ h d = evalOp C call base o ρ' h d := by
  obtain ⟨dst, op, type, pos, after, guard⟩ := o
  have pairs : ∀ ps : Array (Nat × Operand), (∀ x ∈ (ps.toList.map (·.2)), ρ x = ρ' x) →
      ps.toList.mapM (fun p => (ρ p.2).map fun v => (p.1, v)) = ps.toList.mapM (fun p => (ρ' p.2).map fun v => (p.1, v)) := fun ps hp =>
    list_mapM_congr _ fun p hm => by rw [hp p.2 (List.mem_map.2 ⟨p, hm, rfl⟩)]
  cases op <;> simp only [Op.operands] at hρ <;> simp only [evalOp]
  case build t ps => rw [pairs ps fun x hx => hρ x (by simpa using hx)]
  case buildSlice t n ps => rw [pairs ps fun x hx => hρ x (by simpa using hx)]
  case makeFunc fn first captured =>
    rw [list_mapM_congr first.toList fun x hx => hρ x (by simp [Array.mem_toList_iff.1 hx]), list_mapM_congr captured.toList fun x hx => hρ x (by simp [Array.mem_toList_iff.1 hx])]
  case slice t x lo hi mx => cases lo <;> cases hi <;> cases mx <;> simp_all
  case call c =>
    have h1 : c.args.toList.mapM ρ = c.args.toList.mapM ρ' := list_mapM_congr _ fun x hx => hρ x (by simp [Call.operands, Array.mem_toList_iff.1 hx])
    rw [h1]
    cases hc : c.callee with
    | builtin b => rfl
    | value f => have hf : ρ f = ρ' f := hρ f (by simp [Call.operands, hc]); simp only [hf]
    | invoke r m => rfl
  all_goals (first | rfl | (simp_all; done))

theorem callF_p {C : Cfg} {call : CallFn} {g : FuncId} (hp : C.isPure g = true) {vs : List AV} {h h' : Heap} {d d' : Bool} {v : AV} (he : callF C call g vs h d = some (v, h', d')) :
    h' = h ∧ d' = d ∧ ∀ h2 d2, callF C call g vs h2 d2 = some (v, h2, d2) := by
  unfold callF at he ⊢
  cases hq : C.prim g with
  | some p =>
    simp only [hq] at he ⊢
    split at he
    · rename_i hcl
      cases hpv : p (stripL vs) with
      | none => simp [hpv] at he
      | some q =>
        simp only [hpv, Option.bind_some] at he
        split at he
        · rename_i hqc
          simp only [Option.some.injEq, Prod.mk.injEq] at he
          obtain ⟨rfl, rfl, rfl⟩ := he
          exact ⟨rfl, rfl, fun h2 d2 => by simp [hcl, hqc]⟩
        · cases he
    · cases he
  | none =>
    have hm : C.mode g = .pure := by simpa [Cfg.isPure, hq] using hp
    simp only [hq, hm] at he ⊢
    split at he
    · rename_i hcl
      split at he
      · rename_i q h1 d1 hcall
        split at he
        · rename_i hqc
          simp only [Option.some.injEq, Prod.mk.injEq] at he
          obtain ⟨rfl, rfl, rfl⟩ := he
          exact ⟨rfl, rfl, fun h2 d2 => by simp [hcl, hcall, hqc]⟩
        · cases he
      · cases he
    · cases he

theorem map_still {x : Option AV} {h h' : Heap} {d d' : Bool} {v : AV} (he : x.map (fun y => (y, h, d)) = some (v, h', d')) : h' = h ∧ d' = d ∧ ∀ (h2 : Heap) (d2 : Bool), x.map (fun y => (y, h2, d2)) = some (v, h2, d2) := by
  cases x with
  | none => simp at he
  | some y =>
    simp only [Option.map_some, Option.some.injEq, Prod.mk.injEq] at he
    obtain ⟨rfl, rfl, rfl⟩ := he
    exact ⟨rfl, rfl, fun _ _ => rfl⟩

theorem convA_p {P : Program} {s t : TypeId} {h h' : Heap} {a z : AV} (hc : convCls P s t = .p) (he : convA P s t h a = some (z, h')) : h' = h ∧ ∀ h2, convA P s t h2 a = some (z, h2) := by
  unfold convCls at hc
  unfold convA at he ⊢
  split at he
  · rename_i k k0 n hs hd
    simp only [Option.some.injEq, Prod.mk.injEq] at he
    obtain ⟨rfl, rfl⟩ := he
    exact ⟨rfl, fun h2 => by simp [hs, hd]⟩
  · rename_i str hs hd
    simp only [Option.some.injEq, Prod.mk.injEq] at he
    obtain ⟨rfl, rfl⟩ := he
    exact ⟨rfl, fun h2 => by simp [hs, hd]⟩
  · rename_i e str hs hd
    rw [hd] at hc
    cases hc
  · rename_i e hs hd
    rw [hd, hs] at hc
    cases hc
  · cases he

theorem convA_r {P : Program} {s t : TypeId} {h h' : Heap} {a z : AV} (hc : convCls P s t = .r) (he : convA P s t h a = some (z, h')) : h' = h := by
  unfold convCls at hc
  unfold convA at he
  split at he
  · rename_i k k0 n hs hd
    simp only [Option.some.injEq, Prod.mk.injEq] at he
    exact he.2.symm
  · simp only [Option.some.injEq, Prod.mk.injEq] at he
    exact he.2.symm
  · rename_i e str hs hd
    rw [hd] at hc
    cases hc
  · rename_i e hs hd
    repeat' split at he
    all_goals first
      | (cases he; done)
      | (simp only [Option.some.injEq, Prod.mk.injEq] at he; exact he.2.symm)
      | (simp only [Option.map_eq_some_iff] at he; obtain ⟨s, _, he⟩ := he; cases he; rfl)
  · cases he

theorem evalOp_p {C : Cfg} {call : CallFn} {base : Nat} {o : Oper} {fr : List AV} {h h' : Heap} {d d' : Bool} {v : AV} (hc : cls C o = .p) (he : evalOp C call base o (evalOperand fr) h d = some (v, h', d')) :
    h' = h ∧ d' = d ∧ ∀ h2 d2, evalOp C call base o (evalOperand fr) h2 d2 = some (v, h2, d2) := by
  obtain ⟨dst, op, type, pos, after, guard⟩ := o
  cases op <;> simp only [cls] at hc <;> simp only [evalOp] at he ⊢
  case convert s t x =>
    split at he
    · rename_i a ha
      cases hz : convA C.P s t h a with
      | none => simp [hz] at he
      | some q =>
        obtain ⟨z, h1⟩ := q
        simp only [hz, Option.map_some, Option.some.injEq, Prod.mk.injEq] at he
        obtain ⟨rfl, rfl, rfl⟩ := he
        obtain ⟨rfl, k⟩ := convA_p hc hz
        exact ⟨rfl, rfl, fun h2 d2 => by simp [k h2]⟩
    · cases he
  case call c =>
    split at he
    · rename_i vs hvs
      cases hcb : c.callee with
      | builtin b =>
        simp only [hcb] at he hc ⊢
        cases b <;> simp only at hc <;> first | (cases hc; done) | skip
        all_goals (split at he)
        all_goals first
          | (exact map_still he)
          | (cases he; done)
          | (simp_all; done)
      | value f =>
        simp only [hcb] at he hc ⊢
        cases f with
        | func g =>
          simp only at hc
          split at hc
          · rename_i hp
            simp only [evalOperand] at he ⊢
            exact callF_p hp he
          · cases hc
        | _ => cases hc
      | invoke r m => simp [hcb] at hc
    · cases he
  all_goals first
    | (cases hc; done)
    | (exact map_still he)
    | (cases he; done)
    | skip
  all_goals (split at he)
  all_goals first
    | (exact map_still he)
    | (cases he; done)
    | (simp only [Option.some.injEq, Prod.mk.injEq] at he; obtain ⟨rfl, rfl, rfl⟩ := he; exact ⟨rfl, rfl, fun _ _ => rfl⟩)

theorem evalOp_r {C : Cfg} {call : CallFn} {base : Nat} {o : Oper} {ρ : Operand → Option AV} {h h' : Heap} {d d' : Bool} {v : AV} (hc : cls C o = .r) (he : evalOp C call base o ρ h d = some (v, h', d')) :
    h' = h ∧ d' = d := by
  obtain ⟨dst, op, type, pos, after, guard⟩ := o
  cases op <;> simp only [cls] at hc <;> (try (cases hc; done)) <;> simp only [evalOp] at he
  case load t a =>
    split at he
    · exact ⟨(map_still he).1, (map_still he).2.1⟩
    · cases he
  case convert s t x =>
    split at he
    · rename_i a ha
      cases hz : convA C.P s t h a with
      | none => simp [hz] at he
      | some q =>
        obtain ⟨z, h1⟩ := q
        simp only [hz, Option.map_some, Option.some.injEq, Prod.mk.injEq] at he
        obtain ⟨rfl, rfl, rfl⟩ := he
        exact ⟨convA_r hc hz, rfl⟩
    · cases he
  case call c =>
    cases hcb : c.callee with
    | builtin b => simp only [hcb] at hc; cases b <;> cases hc
    | value f =>
      simp only [hcb] at hc
      cases f with
      | func g => simp only at hc; split at hc <;> cases hc
      | _ => cases hc
    | invoke r m => simp only [hcb] at hc; cases hc

/-- Two operations of which neither waits for the other and that do not disturb each other. -/
def compat : Cls → Cls → Bool
  | .p, _ => true
  | _, .p => true
  | .r, .r => true
  | _, _ => false

theorem evalOperand_put {st : St} {dst : Option Tmp} {v : AV} {x : Operand} (h : ∀ d, dst = some d → x ≠ .tmp d) : evalOperand (st.put dst v).fr x = evalOperand st.fr x := by
  cases dst with
  | none => rfl
  | some d =>
    cases x with
    | tmp t =>
      have hne : d ≠ t := fun e => h d rfl (e ▸ rfl)
      simp [evalOperand, St.put, List.getElem?_set_ne hne]
    | _ => rfl

theorem operands_put {ops : Array Oper} {o : Oper} {st : St} {dst : Option Tmp} {v : AV} (h : ∀ d, dst = some d → d ∉ o.looksAt ops) : ∀ x ∈ o.op.operands, evalOperand (st.put dst v).fr x = evalOperand st.fr x :=
  fun x hx => evalOperand_put fun d hd hxd => h d hd (by
    subst hxd
    exact List.mem_append_left _ (List.mem_filterMap.2 ⟨.tmp d, by simpa using hx, rfl⟩))

theorem wantedA_put {ops : Array Oper} {o : Oper} {st : St} {dst : Option Tmp} {v : AV} (h : ∀ d, dst = some d → d ∉ o.looksAt ops) :
    Region.wanted o (yieldedA ops (st.put dst v).fr) = Region.wanted o (yieldedA ops st.fr) := by
  cases dst with
  | none => rfl
  | some d =>
    unfold Region.wanted
    cases hg : o.guard with
    | none => rfl
    | some gw =>
      obtain ⟨g, want⟩ := gw
      have hy : yieldedA ops (st.put (some d) v).fr g = yieldedA ops st.fr g := by
        unfold yieldedA
        cases ht : (ops[g]?).bind (·.dst) with
        | none => rfl
        | some t =>
          have hne : d ≠ t := fun e => h d rfl (by subst e; simp [Oper.looksAt, hg, ht])
          simp [St.put, List.getElem?_set_ne hne]
      simp only [hy]

theorem put_comm' (fr : List AV) (h1 h2 : Heap) {x y : Option Tmp} (v u : AV) (hne : ∀ d, x = some d → y ≠ some d) (h : Heap) (d : Bool) :
    (St.put ⟨(St.put ⟨fr, h1, d⟩ x v).fr, h, d⟩ y u) = (St.put ⟨(St.put ⟨fr, h2, d⟩ y u).fr, h, d⟩ x v) := by
  cases x with
  | none => cases y <;> rfl
  | some a =>
    cases y with
    | none => rfl
    | some b =>
      have hab : a ≠ b := fun e => hne a rfl (e ▸ rfl)
      simp [St.put, List.set_comm _ _ hab]

theorem put_h (fr : List AV) (h : Heap) (d : Bool) (x : Option Tmp) (v : AV) : (St.put ⟨fr, h, d⟩ x v).h = h ∧ (St.put ⟨fr, h, d⟩ x v).d = d := by cases x <;> exact ⟨rfl, rfl⟩
theorem put_fr (fr : List AV) (h h2 : Heap) (d d2 : Bool) (x : Option Tmp) (v : AV) : (St.put ⟨fr, h, d⟩ x v).fr = (St.put ⟨fr, h2, d2⟩ x v).fr := by cases x <;> rfl
theorem put_mk (fr : List AV) (h : Heap) (d : Bool) (x : Option Tmp) (v : AV) : St.put ⟨fr, h, d⟩ x v = ⟨(St.put ⟨fr, h, d⟩ x v).fr, h, d⟩ := by cases x <;> rfl

/-- What a step does, laid out. -/
theorem stepOp_cases {C : Cfg} {call : CallFn} {base : Nat} {ops : Array Oper} {o : Oper} {st st' : St} (he : stepOp C call base ops o st = some st') :
    (Region.wanted o (yieldedA ops st.fr) = true ∧ ∃ v h d, evalOp C call base o (evalOperand st.fr) st.h st.d = some (v, h, d) ∧ st' = St.put ⟨st.fr, h, d⟩ o.dst v) ∨
    (Region.wanted o (yieldedA ops st.fr) = false ∧ st' = st.put o.dst .undef) := by
  unfold stepOp at he
  split at he
  · rename_i hw
    split at he
    · rename_i v h d hev
      simp only [Option.some.injEq] at he
      exact .inl ⟨hw, v, h, d, hev, he.symm⟩
    · cases he
  · rename_i hw
    simp only [Option.some.injEq] at he
    exact .inr ⟨by simpa using hw, he.symm⟩

theorem step_swap {C : Cfg} {call : CallFn} {base : Nat} {ops : Array Oper} {oi oj : Oper} (hap : oi.apart ops oj = true) (hcm : compat (cls C oi) (cls C oj) = true) {st si sij : St}
    (h1 : stepOp C call base ops oi st = some si) (h2 : stepOp C call base ops oj si = some sij) : ∃ sj, stepOp C call base ops oj st = some sj ∧ stepOp C call base ops oi sj = some sij := by
  obtain ⟨a1, a2, a3⟩ := Oper.apart_spec hap
  obtain ⟨fr, h, d⟩ := st
  rcases stepOp_cases h1 with ⟨wi, v, hi, di, ei, rfl⟩ | ⟨wi, rfl⟩
  · simp only at wi ei
    have frI : ∀ x ∈ oj.op.operands, evalOperand (St.put ⟨fr, hi, di⟩ oi.dst v).fr x = evalOperand fr x := operands_put (st := ⟨fr, hi, di⟩) a1
    have wj0 : Region.wanted oj (yieldedA ops (St.put ⟨fr, hi, di⟩ oi.dst v).fr) = Region.wanted oj (yieldedA ops fr) := wantedA_put (st := ⟨fr, hi, di⟩) a1
    rcases stepOp_cases h2 with ⟨wj, u, hj, dj, ej, rfl⟩ | ⟨wj, rfl⟩
    · rw [wj0] at wj
      rw [evalOp_congr frI, (put_h fr hi di oi.dst v).1, (put_h fr hi di oi.dst v).2] at ej
      -- j ahead of i
      have key : ∃ hj' dj', evalOp C call base oj (evalOperand fr) h d = some (u, hj', dj') ∧ evalOp C call base oi (evalOperand fr) hj' dj' = some (v, hj, dj) := by
        cases hci : cls C oi with
        | p =>
          obtain ⟨rfl, rfl, k⟩ := evalOp_p hci ei
          exact ⟨hj, dj, ej, k _ _⟩
        | r =>
          obtain ⟨rfl, rfl⟩ := evalOp_r hci ei
          cases hcj : cls C oj with
          | p =>
            obtain ⟨rfl, rfl, k⟩ := evalOp_p hcj ej
            exact ⟨_, _, ej, ei⟩
          | r =>
            obtain ⟨rfl, rfl⟩ := evalOp_r hcj ej
            exact ⟨_, _, ej, ei⟩
          | s => rw [hci, hcj] at hcm; cases hcm
        | s =>
          cases hcj : cls C oj with
          | p =>
            obtain ⟨rfl, rfl, k⟩ := evalOp_p hcj ej
            exact ⟨h, d, k _ _, ei⟩
          | r => rw [hci, hcj] at hcm; cases hcm
          | s => rw [hci, hcj] at hcm; cases hcm
      obtain ⟨hj', dj', e1, e2⟩ := key
      refine ⟨St.put ⟨fr, hj', dj'⟩ oj.dst u, by simp only [stepOp, wj, if_true, e1], ?_⟩
      have frJ : ∀ x ∈ oi.op.operands, evalOperand (St.put ⟨fr, hj', dj'⟩ oj.dst u).fr x = evalOperand fr x := operands_put (st := ⟨fr, hj', dj'⟩) a3
      have wi0 : Region.wanted oi (yieldedA ops (St.put ⟨fr, hj', dj'⟩ oj.dst u).fr) = Region.wanted oi (yieldedA ops fr) := wantedA_put (st := ⟨fr, hj', dj'⟩) a3
      simp only [stepOp, wi0, wi, if_true, evalOp_congr frJ, (put_h fr hj' dj' oj.dst u).1, (put_h fr hj' dj' oj.dst u).2, e2]
      rw [put_fr fr hj' hj dj' dj oj.dst u, put_fr fr hi hj di dj oi.dst v]
      exact congrArg some (put_comm' fr hj hj v u a2 hj dj).symm
    · rw [wj0] at wj
      refine ⟨St.put ⟨fr, h, d⟩ oj.dst .undef, by simp only [stepOp, wj, Bool.false_eq_true, if_false], ?_⟩
      have frJ : ∀ x ∈ oi.op.operands, evalOperand (St.put ⟨fr, h, d⟩ oj.dst .undef).fr x = evalOperand fr x := operands_put (st := ⟨fr, h, d⟩) a3
      have wi0 : Region.wanted oi (yieldedA ops (St.put ⟨fr, h, d⟩ oj.dst .undef).fr) = Region.wanted oi (yieldedA ops fr) := wantedA_put (st := ⟨fr, h, d⟩) a3
      simp only [stepOp, wi0, wi, if_true, evalOp_congr frJ, (put_h fr h d oj.dst .undef).1, (put_h fr h d oj.dst .undef).2, ei]
      rw [put_mk fr hi di oi.dst v, put_fr fr h hi d di oj.dst .undef]
      exact congrArg some (put_comm' fr hi hi v .undef a2 hi di).symm
  · simp only at wi
    have frI : ∀ x ∈ oj.op.operands, evalOperand (St.put ⟨fr, h, d⟩ oi.dst .undef).fr x = evalOperand fr x := operands_put (st := ⟨fr, h, d⟩) a1
    have wj0 : Region.wanted oj (yieldedA ops (St.put ⟨fr, h, d⟩ oi.dst .undef).fr) = Region.wanted oj (yieldedA ops fr) := wantedA_put (st := ⟨fr, h, d⟩) a1
    rcases stepOp_cases h2 with ⟨wj, u, hj, dj, ej, rfl⟩ | ⟨wj, rfl⟩
    · rw [wj0] at wj
      rw [evalOp_congr frI, (put_h fr h d oi.dst .undef).1, (put_h fr h d oi.dst .undef).2] at ej
      refine ⟨St.put ⟨fr, hj, dj⟩ oj.dst u, by simp only [stepOp, wj, if_true, ej], ?_⟩
      have wi0 : Region.wanted oi (yieldedA ops (St.put ⟨fr, hj, dj⟩ oj.dst u).fr) = Region.wanted oi (yieldedA ops fr) := wantedA_put (st := ⟨fr, hj, dj⟩) a3
      simp only [stepOp, wi0, wi, Bool.false_eq_true, if_false]
      rw [put_mk fr hj dj oj.dst u, put_fr fr h hj d dj oi.dst .undef]
      exact congrArg some (put_comm' fr hj hj .undef u a2 hj dj).symm
    · rw [wj0] at wj
      refine ⟨St.put ⟨fr, h, d⟩ oj.dst .undef, by simp only [stepOp, wj, Bool.false_eq_true, if_false], ?_⟩
      have wi0 : Region.wanted oi (yieldedA ops (St.put ⟨fr, h, d⟩ oj.dst .undef).fr) = Region.wanted oi (yieldedA ops fr) := wantedA_put (st := ⟨fr, h, d⟩) a3
      simp only [stepOp, wi0, wi, Bool.false_eq_true, if_false]
      rw [put_mk fr h d oj.dst .undef, put_mk fr h d oi.dst .undef]
      exact congrArg some (put_comm' fr h h .undef .undef a2 h d).symm

end Go.Proofs.Ytnifldbmflkmpaa.Ev
