/-
  Parts, one behind the other: EvM, EvN, EvO, EvP, EvQ, EvR.
-/
import Derived.LoopN
import Derived.Handed
import Derived.Below
import Derived.Carry
import Derived.ChangeSame
import Derived.Deep.Slices
import Derived.WideKeyArgs
import Derived.JoinedOf
import Derived.Test.YtpfdfilkhaoibaaMb
/-
  A whole operation; regions, in the text's order.
-/
namespace Go.Proofs.Ytpfdfilkhaoibaa.Ev
open Go
set_option linter.unusedVariables false
set_option linter.unusedSimpArgs false

theorem VRel.stripE {m : M} {x : AV} {v : Value} (h : VRel m x v) : VRel m (Ev.stripE x) v := by
  cases x with
  | list xs nn cap tok =>
    simp only [Ev.stripE, VRel] at h ⊢
    rcases h with ⟨h0, h1, h2, h3, h4⟩ | ⟨a, cap', cvs, s, h1, h2, h3, h4, h5, h6, h7, h8⟩
    · subst h0; exact .inl ⟨by simp only [stripL], h1, h2, h3, h4⟩
    · have hl : (stripL xs).length = xs.length := stripL_length xs
      exact .inr ⟨a, cap', cvs, s, by rw [hl]; exact h1, h2, by rw [hl]; exact h3, VRelL.strip xs cvs h4, h5, h6, h7, fun τ e => by rw [hl]; exact h8 τ e⟩
  | _ => exact h


/-- What an operation must give. -/
def OpOk (P : Program) (base : Nat) (m : M) (h : Heap) (w : World) (d : Bool) (r : Result Next) (v : AV) (h' : Heap) (d' : Bool) : Prop :=
  Res P r (fun u w' => ∃ m', Step w.heap.size m h w m' h' w' ∧ VRel m' v u) ∧ h.length ≤ h'.length ∧ (d' = false → d = false ∧ ∀ i, i < base → h'[i]? = h[i]?)

theorem OpOk.still {P : Program} {base : Nat} {m : M} {h : Heap} {w : World} {d : Bool} {v : AV} {u : Value} (hi : Inv m h w) (hv : VRel m v u) : OpOk P base m h w d (.ok (.value u) w) v h d :=
  ⟨⟨m, Step.refl hi, hv⟩, Nat.le_refl _, fun e => ⟨e, fun _ _ => rfl⟩⟩

theorem mapM_rel {m : M} {ρ : Operand → Option AV} {ρc : Operand → Value} (hρ : ∀ x v, ρ x = some v → VRel m v (ρc x)) : ∀ (l : List Operand) (vs : List AV), l.mapM ρ = some vs → VRelL m vs (l.map ρc)
  | [], vs, h => by simp at h; subst h; exact .nil
  | x :: l, vs, h => by
    rw [List.mapM_cons] at h
    cases hx : ρ x with
    | none => simp [hx] at h
    | some v =>
      cases hl : l.mapM ρ with
      | none => simp [hx, hl] at h
      | some us =>
        simp [hx, hl] at h
        subst h
        exact .cons (hρ x v hx) (mapM_rel hρ l us hl)
theorem mapM_parts {m : M} {ρ : Operand → Option AV} {ρc : Operand → Value} (hρ : ∀ x v, ρ x = some v → VRel m v (ρc x)) : ∀ (l : List (Nat × Operand)) (ps : List (Nat × AV)),
    l.mapM (fun p => (ρ p.2).map fun v => (p.1, v)) = some ps → PRel m ps (l.map fun p => (p.1, ρc p.2))
  | [], ps, h => by simp at h; subst h; simp [PRel]
  | (i, x) :: l, ps, h => by
    rw [List.mapM_cons] at h
    cases hx : ρ x with
    | none => simp [hx] at h
    | some v =>
      cases hl : l.mapM (fun p => (ρ p.2).map fun v => (p.1, v)) with
      | none => simp [hx, hl] at h
      | some us =>
        simp [hx, hl] at h
        subst h
        simp only [List.map_cons, PRel]
        exact ⟨ρc x, _, rfl, hρ x v hx, mapM_parts hρ l us hl⟩
theorem mapM_opt {m : M} {ρ : Operand → Option AV} {ρc : Operand → Value} (hρ : ∀ x v, ρ x = some v → VRel m v (ρc x)) {o : Option Operand} {r : Option AV} (h : o.mapM ρ = some r) : ORel m r (o.map ρc) := by
  cases o with
  | none => simp at h; subst h; simp [ORel]
  | some x =>
    cases hx : ρ x with
    | none => simp [hx] at h
    | some v => simp [hx] at h; subst h; simpa [ORel] using hρ x v hx

theorem append_dirty {wr : Option Nat} {base : Nat} {h h' : Heap} (hb : base ≤ h.length) (hk : ∀ i, wr ≠ some i → i < h.length → h'[i]? = h[i]?)
    (hd : wrDirty base wr = false) : ∀ i, i < base → h'[i]? = h[i]? := by
  intro i hi
  refine hk i ?_ (by omega)
  rintro rfl
  simp [wrDirty] at hd
  omega

theorem methodA_ok {P : Program} {m : M} {w : World} {x : AV} {name : String} {f : FuncId} {v : AV} (he : methodA P x name = some (f, v)) {u : Value} (hx : VRel m x u) :
    ∃ u0, VRel m v u0 ∧ ∀ args : Array Value, (callMethod u name args).run P w = (callFunc f (#[u0] ++ args)).run P w := by
  unfold methodA at he
  split at he
  case h_2 => cases he
  rename_i t x
  simp only [VRel] at hx
  obtain ⟨cv, rfl, hx⟩ := hx
  split at he
  case h_2 => cases he
  rename_i i hi
  split at he
  case h_2 => cases he
  rename_i md hmd
  split at he
  case isFalse => cases he
  rename_i hp
  have hpath : md.path.toList = [] := by
    have : md.path = #[] := by simpa using hp
    rw [this]
  obtain ⟨k, hk⟩ : ∃ k, P.types.size + Made.depth = k + 1 := ⟨P.types.size + Made.depth - 1, by have : 0 < Made.depth := (by decide); omega⟩
  split at he
  · rename_i f' e hf hu
    simp only [Option.some.injEq, Prod.mk.injEq] at he
    obtain ⟨rfl, rfl⟩ := he
    refine ⟨cv, hx, fun args => ?_⟩
    simp [callMethod, hk, method, typeInfo, hi, hmd, hpath, follow, hf, receiverAt, run_underlying hu, Place.get]
  · rename_i f' fs hf hu
    simp only [Option.some.injEq, Prod.mk.injEq] at he
    obtain ⟨rfl, rfl⟩ := he
    refine ⟨cv, hx, fun args => ?_⟩
    simp [callMethod, hk, method, typeInfo, hi, hmd, hpath, follow, hf, receiverAt, run_underlying hu, Place.get]
  · cases he

set_option maxHeartbeats 1000000 in
theorem evalOp_ok {C : Cfg} (hC : CfgOk C) {call : CallFn} (hcall : CallSpec C.P call) {base : Nat} {o : Oper} {ρ : Operand → Option AV} {h h' : Heap} {d d' : Bool} {v : AV}
    (he : evalOp C call base o ρ h d = some (v, h', d')) {m : M} {w : World} (hi : Inv m h w) (hb : base ≤ h.length) {ρc : Operand → Value} (hρ : ∀ x v, ρ x = some v → VRel m v (ρc x)) :
    OpOk C.P base m h w d ((execOp ρc o).run C.P w) v h' d' := by
  unfold evalOp at he
  simp only at he
  unfold execOp
  split at he
  · rename_i x ho
    simp only [ho]
    cases hx : ρ x with
    | none => simp [hx] at he
    | some u =>
      simp only [hx, Option.map_some, Option.some.injEq, Prod.mk.injEq] at he
      obtain ⟨rfl, rfl, rfl⟩ := he
      exact OpOk.still hi (hρ x _ hx)
  · rename_i x ho
    simp only [ho]
    cases hx : ρ x with
    | none => simp [hx] at he
    | some u =>
      simp only [hx, Option.map_some, Option.some.injEq, Prod.mk.injEq] at he
      obtain ⟨rfl, rfl, rfl⟩ := he
      exact OpOk.still hi (hρ x _ hx)
  · rename_i c a b ho
    simp only [ho]
    split at he
    · rename_i hc
      have hc' := (hρ c _ hc).bool'
      cases hx : ρ a with
      | none => simp [hx] at he
      | some u =>
        simp only [hx, Option.map_some, Option.some.injEq, Prod.mk.injEq] at he
        obtain ⟨rfl, rfl, rfl⟩ := he
        simp only [hc', asBool, Sem.run_bind, Sem.run_pure, Result.andThen_ok]
        exact OpOk.still hi (hρ a _ hx)
    · rename_i hc
      have hc' := (hρ c _ hc).bool'
      cases hx : ρ b with
      | none => simp [hx] at he
      | some u =>
        simp only [hx, Option.map_some, Option.some.injEq, Prod.mk.injEq] at he
        obtain ⟨rfl, rfl, rfl⟩ := he
        simp only [hc', asBool, Sem.run_bind, Sem.run_pure, Result.andThen_ok]
        exact OpOk.still hi (hρ b _ hx)
    · cases he
  · rename_i t ho
    simp only [ho]
    split at he
    · rename_i z hz
      split at he
      · rename_i hone
        simp only [Option.some.injEq, Prod.mk.injEq] at he
        obtain ⟨rfl, rfl, rfl⟩ := he
        obtain ⟨i, zv, q1, q2, q3⟩ := tyZero_spec hz
        obtain ⟨m', k1, k2, k3⟩ := newVar_ok hi (q3 m) hone t C.P
        simp only [Instr.alloc, Sem.run_bind, run_zeroValue' q1 q2, Result.andThen_ok, k1, Sem.run_pure]
        exact ⟨⟨m', k2, k3⟩, by simp, fun e => ⟨e, fun i hi' => by rw [List.getElem?_append_left (by omega)]⟩⟩
      · cases he
    · cases he
  · rename_i t x ho
    simp only [ho]
    split at he
    · rename_i u hx
      split at he
      · rename_i hone
        simp only [Option.some.injEq, Prod.mk.injEq] at he
        obtain ⟨rfl, rfl, rfl⟩ := he
        obtain ⟨m', k1, k2, k3⟩ := newVar_ok hi (hρ x _ hx) hone t C.P
        simp only [Instr.box, Sem.run_bind, Result.andThen_ok, k1, Sem.run_pure]
        exact ⟨⟨m', k2, k3⟩, by simp, fun e => ⟨e, fun i hi' => by rw [List.getElem?_append_left (by omega)]⟩⟩
      · cases he
    · cases he
  · rename_i t parts ho
    simp only [ho]
    split at he
    · rename_i ps hps
      cases hz : buildA C.P t ps with
      | none => simp [hz] at he
      | some z =>
        simp only [hz, Option.map_some, Option.some.injEq, Prod.mk.injEq] at he
        obtain ⟨rfl, rfl, rfl⟩ := he
        obtain ⟨r, k1, k2⟩ := buildA_ok (P := C.P) (m := m) (w := w) (cparts := parts.map fun (i, x) => (i, ρc x)) hz (by simpa using mapM_parts hρ _ _ hps)
        simp only [Sem.run_bind, Result.andThen_ok, k1, Sem.run_pure]
        exact OpOk.still hi k2
    · cases he
  · rename_i t n parts ho
    simp only [ho]
    split at he
    · rename_i ps hps
      split at he
      · cases hz : buildSliceM C.P t h n ps with
        | none => simp [hz] at he
        | some q =>
          obtain ⟨z, h1⟩ := q
          simp only [hz, Option.map_some, Option.some.injEq, Prod.mk.injEq] at he
          obtain ⟨rfl, rfl, rfl⟩ := he
          obtain ⟨r, w', m', k1, k2, k3, k4⟩ := buildSliceM_ok (P := C.P) hi (cparts := parts.map fun (i, x) => (i, ρc x)) hz (by simpa using mapM_parts hρ _ _ hps)
          simp only [Sem.run_bind, Result.andThen_ok, k1, Sem.run_pure]
          refine ⟨⟨m', k2, k3⟩, ?_, fun e => ⟨e, fun i hi' => ?_⟩⟩
          · rcases k4 with rfl | ⟨o, rfl⟩ <;> simp
          · rcases k4 with rfl | ⟨o, rfl⟩
            · rfl
            · rw [List.getElem?_append_left (by omega)]
      rename_i harr
      cases hz : buildSliceA C.P t n ps with
      | none => simp [hz] at he
      | some z =>
        cases hf : freshB C.P t n with
        | false =>
          simp only [hz, hf, Bool.false_eq_true, if_false, Option.map_some, Option.some.injEq, Prod.mk.injEq] at he
          obtain ⟨rfl, rfl, rfl⟩ := he
          obtain ⟨r, w', m', k1, k2, k3⟩ := buildSliceA_ok (P := C.P) hi (cparts := parts.map fun (i, x) => (i, ρc x)) hz (by simpa using mapM_parts hρ _ _ hps)
          simp only [Sem.run_bind, Result.andThen_ok, k1, Sem.run_pure]
          exact ⟨⟨m', k2, k3⟩, Nat.le_refl _, fun e => ⟨e, fun _ _ => rfl⟩⟩
        | true =>
          simp only [hz, hf, if_true, Option.map_some, Option.some.injEq, Prod.mk.injEq] at he
          obtain ⟨rfl, rfl, rfl⟩ := he
          obtain ⟨r, w', m', k1, k2, k3⟩ := buildSliceT_ok (P := C.P) hi (cparts := parts.map fun (i, x) => (i, ρc x)) hf hz (by simpa using mapM_parts hρ _ _ hps)
          simp only [Sem.run_bind, Result.andThen_ok, k1, Sem.run_pure]
          exact ⟨⟨m', k2, k3⟩, by simp, fun e => ⟨e, fun i hi => by rw [List.getElem?_append_left (by omega)]⟩⟩
    · cases he
  · rename_i t a ho
    simp only [ho]
    split at he
    · rename_i x hx
      cases hz : loadA C.P t h x with
      | none => simp [hz] at he
      | some z =>
        simp only [hz, Option.map_some, Option.some.injEq, Prod.mk.injEq] at he
        obtain ⟨rfl, rfl, rfl⟩ := he
        obtain ⟨r, k1, k2⟩ := loadA_ok (P := C.P) hi (hρ a _ hx) hz
        simp only [Sem.run_bind, Result.andThen_ok, k1, Sem.run_pure]
        exact OpOk.still hi k2
    · cases he
  · rename_i t a x ho
    simp only [ho]
    split at he
    · rename_i xa xv ha hx
      cases hz : storeA C.P t h xa xv with
      | none => simp [hz] at he
      | some q =>
        obtain ⟨h1, b⟩ := q
        simp only [hz, Option.map_some, Option.some.injEq, Prod.mk.injEq] at he
        obtain ⟨rfl, rfl, rfl⟩ := he
        obtain ⟨w', k1, k2, k3⟩ := storeA_ok (P := C.P) hi hz (hρ a _ ha) (hρ x _ hx)
        simp only [Sem.run_bind, Result.andThen_ok, k1, Sem.run_pure]
        refine ⟨⟨m, k2, VRel.undef⟩, by rw [k3]; simp, fun e => ?_⟩
        simp only [Bool.or_eq_false_iff, decide_eq_false_iff_not] at e
        refine ⟨e.1, fun i hi' => ?_⟩
        rw [k3, List.getElem?_set_ne (by omega)]
    · cases he
  · rename_i x ho
    simp only [ho]
    split at he
    · rename_i b oo hx
      simp only [Option.some.injEq, Prod.mk.injEq] at he
      obtain ⟨rfl, rfl, rfl⟩ := he
      have := hρ x _ hx
      have h2 := this
      simp only [VRel] at this
      obtain ⟨c, _, e⟩ := this
      rw [e] at h2 ⊢
      exact OpOk.still hi h2
    · rename_i y hx
      simp only [Option.some.injEq, Prod.mk.injEq] at he
      obtain ⟨rfl, rfl, rfl⟩ := he
      have := hρ x _ hx
      have h2 := this
      simp only [VRel] at this
      obtain ⟨c, cv, e, _⟩ := this
      rw [e] at h2 ⊢
      exact OpOk.still hi h2
    · rename_i f a b hx
      simp only [Option.some.injEq, Prod.mk.injEq] at he
      obtain ⟨rfl, rfl, rfl⟩ := he
      have := hρ x _ hx
      have h2 := this
      simp only [VRel] at this
      obtain ⟨xs, ys, e, _⟩ := this
      rw [e] at h2 ⊢
      exact OpOk.still hi h2
    · cases he
  · rename_i op t x y ty ho
    simp only [ho]
    split at he
    · rename_i a b ha hb'
      split at he
      case isFalse => cases he
      rename_i hnil
      cases hz : binA C.P op t h a b with
      | none => simp [hz] at he
      | some z =>
        simp only [hz, Option.map_some, Option.some.injEq, Prod.mk.injEq] at he
        obtain ⟨rfl, rfl, rfl⟩ := he
        obtain ⟨r, k1, k2⟩ := binA_ok (P := C.P) hi hz (hρ x _ ha) (hρ y _ hb')
        have k0 := eqGuard_run (P := C.P) (w := w) op t x y hz hnil (hρ x _ ha) (hρ y _ hb')
        simp only [Sem.run_bind, Result.andThen_ok, k0, k1, Sem.run_pure]
        exact OpOk.still hi k2
    · cases he
  · rename_i op t x ho
    simp only [ho]
    split at he
    · rename_i a ha
      cases hz : unA op a with
      | none => simp [hz] at he
      | some z =>
        simp only [hz, Option.map_some, Option.some.injEq, Prod.mk.injEq] at he
        obtain ⟨rfl, rfl, rfl⟩ := he
        obtain ⟨r, k1, k2⟩ := unA_ok (P := C.P) (w := w) hz (hρ x _ ha)
        simp only [Sem.run_bind, Result.andThen_ok, k1, Sem.run_pure]
        exact OpOk.still hi k2
    · cases he
  · rename_i s t x ho
    simp only [ho]
    split at he
    · rename_i a ha
      cases hz : convA C.P s t h a with
      | none => simp [hz] at he
      | some q =>
        obtain ⟨z, h1⟩ := q
        simp only [hz, Option.map_some, Option.some.injEq, Prod.mk.injEq] at he
        obtain ⟨rfl, rfl, rfl⟩ := he
        obtain ⟨r, w', m', k1, k2, k3⟩ := convA_ok (P := C.P) hi hz (hρ x _ ha)
        simp only [Sem.run_bind, Result.andThen_ok, k1, Sem.run_pure]
        have hgrow : h1 = h ∨ ∃ o, h1 = h ++ [o] := convA_heap hz
        refine ⟨⟨m', k2, k3⟩, ?_, fun e => ⟨e, fun i hi' => ?_⟩⟩
        · rcases hgrow with rfl | ⟨o, rfl⟩ <;> simp
        · rcases hgrow with rfl | ⟨o, rfl⟩
          · rfl
          · rw [List.getElem?_append_left (by omega)]
    · cases he
  · rename_i t x ho
    simp only [ho]
    split at he
    · cases he
    · rename_i a dd hni ha hdd
      simp only [Option.some.injEq, Prod.mk.injEq] at he
      obtain ⟨rfl, rfl, rfl⟩ := he
      have hrun : (Instr.makeInterface t (ρc x)).run C.P w = .ok (.iface t (ρc x)) w := by
        cases dd <;> first | (exact (hni _ rfl).elim) | (simp [Instr.makeInterface, run_underlying hdd])
      simp only [Sem.run_bind, Result.andThen_ok, hrun, Sem.run_pure]
      exact OpOk.still hi (by simp only [VRel]; exact ⟨_, rfl, hρ x _ ha⟩)
    · cases he
  · rename_i fn first captured ho
    simp only [ho]
    split at he
    · rename_i a b ha hb'
      simp only [Option.some.injEq, Prod.mk.injEq] at he
      obtain ⟨rfl, rfl, rfl⟩ := he
      simp only [Instr.makeFunc, Sem.run_bind, Result.andThen_ok, Sem.run_pure]
      refine OpOk.still hi ?_
      simp only [VRel]
      exact ⟨_, _, rfl, by simpa using mapM_rel hρ _ _ ha, by simpa using mapM_rel hρ _ _ hb'⟩
    · cases he
  · rename_i t l c ho
    simp only [ho]
    split at he
    · rename_i a b ha hb'
      cases hz : makeSliceA C.P C.arr t h a b with
      | none => simp [hz] at he
      | some q =>
        obtain ⟨z, h1⟩ := q
        simp only [hz, Option.map_some, Option.some.injEq, Prod.mk.injEq] at he
        obtain ⟨rfl, rfl, rfl⟩ := he
        obtain ⟨r, w', m', k1, k2, k3, ob, rfl⟩ := makeSliceA_ok (P := C.P) hi hz (hρ l _ ha) (hρ c _ hb')
        simp only [Sem.run_bind, Result.andThen_ok, k1, Sem.run_pure]
        exact ⟨⟨m', k2, k3⟩, by simp, fun e => ⟨e, fun i hi' => by rw [List.getElem?_append_left (by omega)]⟩⟩
    · cases he
  · rename_i t x lo hi' mx ho
    simp only [ho]
    split at he
    · rename_i a l1 h1 m1 ha hl hh hm
      cases hz : sliceA C.P t a l1 h1 m1 with
      | none => simp [hz] at he
      | some z =>
        simp only [hz, Option.map_some, Option.some.injEq, Prod.mk.injEq] at he
        obtain ⟨rfl, rfl, rfl⟩ := he
        obtain ⟨r, k1, k2⟩ := sliceA_ok (P := C.P) (w := w) hz (hρ x _ ha) (mapM_opt hρ hl) (mapM_opt hρ hh) (mapM_opt hρ hm)
        simp only [Sem.run_bind, Result.andThen_ok, k1, Sem.run_pure]
        exact OpOk.still hi k2
    · cases he
  · rename_i t x f ho
    simp only [ho]
    split at he
    · rename_i a ha
      cases hz : fieldAddrA C.P t a f with
      | none => simp [hz] at he
      | some z =>
        simp only [hz, Option.map_some, Option.some.injEq, Prod.mk.injEq] at he
        obtain ⟨rfl, rfl, rfl⟩ := he
        obtain ⟨r, k1, k2⟩ := fieldAddrA_ok (P := C.P) (w := w) hz (hρ x _ ha)
        simp only [Sem.run_bind, Result.andThen_ok, k1, Sem.run_pure]
        exact OpOk.still hi k2
    · cases he
  · rename_i t x f ho
    simp only [ho]
    split at he
    · rename_i a ha
      cases hz : fieldA C.P t a f with
      | none => simp [hz] at he
      | some z =>
        simp only [hz, Option.map_some, Option.some.injEq, Prod.mk.injEq] at he
        obtain ⟨rfl, rfl, rfl⟩ := he
        obtain ⟨r, k1, k2⟩ := fieldA_ok (P := C.P) (w := w) hz (hρ x _ ha)
        simp only [Sem.run_bind, Result.andThen_ok, k1, Sem.run_pure]
        exact OpOk.still hi k2
    · cases he
  · rename_i t x ix ho
    simp only [ho]
    split at he
    · rename_i a b ha hb'
      cases hz : indexAddrA C.P t a b with
      | none => simp [hz] at he
      | some z =>
        simp only [hz, Option.map_some, Option.some.injEq, Prod.mk.injEq] at he
        obtain ⟨rfl, rfl, rfl⟩ := he
        obtain ⟨r, k1, k2⟩ := indexAddrA_ok (P := C.P) (w := w) hz (hρ x _ ha) (hρ ix _ hb')
        simp only [Sem.run_bind, Result.andThen_ok, k1, Sem.run_pure]
        exact OpOk.still hi k2
    · cases he
  · rename_i t x ix ho
    simp only [ho]
    split at he
    · rename_i a b ha hb'
      cases hz : indexA C.P t a b with
      | none => simp [hz] at he
      | some z =>
        simp only [hz, Option.map_some, Option.some.injEq, Prod.mk.injEq] at he
        obtain ⟨rfl, rfl, rfl⟩ := he
        obtain ⟨r, k1, k2⟩ := indexA_ok (P := C.P) (w := w) hz (hρ x _ ha) (hρ ix _ hb')
        simp only [Sem.run_bind, Result.andThen_ok, k1, Sem.run_pure]
        exact OpOk.still hi k2
    · cases he
  · rename_i t i ho
    simp only [ho]
    split at he
    · rename_i vs ha
      cases hz : vs[i]? with
      | none => simp [hz] at he
      | some z =>
        simp only [hz, Option.map_some, Option.some.injEq, Prod.mk.injEq] at he
        obtain ⟨rfl, rfl, rfl⟩ := he
        have hx := hρ t _ ha
        simp only [VRel] at hx
        obtain ⟨us, e, hr⟩ := hx
        obtain ⟨u, hu, hv⟩ := hr.get hz
        have hu' : us[i]? = some u := by simpa using hu
        simp only [e, Instr.extract, hu', Sem.run_bind, Result.andThen_ok, Sem.run_pure]
        exact OpOk.still hi hv
    · cases he
  · rename_i c ho
    simp only [ho]
    split at he
    · rename_i vs hvs
      have hargs : VRelL m vs (c.args.map ρc).toList := by simpa using mapM_rel hρ _ _ hvs
      split at he
      · rename_i b hcb
        simp only [resolve, hcb, Sem.run_bind, Sem.run_pure, Result.andThen_ok, invoke, builtin]
        split at he
        · rename_i bb ats vs0 t trest x rest hats
          cases hz : lenA C.P t x with
          | none => simp [hz] at he
          | some z =>
            simp only [hz, Option.map_some, Option.some.injEq, Prod.mk.injEq] at he
            obtain ⟨rfl, rfl, rfl⟩ := he
            obtain ⟨u, hu, hx⟩ := hargs.get (i := 0) (x := x) (by simp)
            have ht : c.argTypes[0]? = some t := by rw [← Array.getElem?_toList, hats]; rfl
            obtain ⟨r, k1, k2⟩ := lenA_ok (P := C.P) (w := w) (ty := o.type) ht hz (us := c.args.map ρc) (by rw [← Array.getElem?_toList]; exact hu) hx
            simp only [Sem.run_bind, k1, Result.andThen_ok, Sem.run_pure]
            exact OpOk.still hi k2
        · obtain ⟨z, hz, he⟩ := Option.map_eq_some_iff.1 he
          · simp only [Prod.mk.injEq] at he
            obtain ⟨rfl, rfl, rfl⟩ := he
            obtain ⟨r, k1, k2⟩ := minsA_ok (P := C.P) (w := w) (ts := c.argTypes) (ty := o.type) true hz hargs
            simp only [if_true] at k1
            simp only [Sem.run_bind, k1, Result.andThen_ok, Sem.run_pure]
            exact OpOk.still hi k2
        · obtain ⟨z, hz, he⟩ := Option.map_eq_some_iff.1 he
          · simp only [Prod.mk.injEq] at he
            obtain ⟨rfl, rfl, rfl⟩ := he
            obtain ⟨r, k1, k2⟩ := minsA_ok (P := C.P) (w := w) (ts := c.argTypes) (ty := o.type) false hz hargs
            simp only [if_false, Bool.false_eq_true] at k1
            simp only [Sem.run_bind, k1, Result.andThen_ok, Sem.run_pure]
            exact OpOk.still hi k2
        · rename_i ts x y
          cases hz : appendA C.P C.arr c.argTypes.toList h x y with
          | none => simp [hz] at he
          | some q =>
            obtain ⟨z, h1, wr⟩ := q
            simp only [hz, Option.map_some, Option.some.injEq, Prod.mk.injEq] at he
            obtain ⟨rfl, rfl, rfl⟩ := he
            simp only [VRelL] at hargs
            obtain ⟨u, us, e1, hx, v', vs', e2, hy, e3⟩ := hargs
            have hca : c.args.map ρc = #[u, v'] := by apply Array.ext'; rw [e1, e2, e3]
            obtain ⟨⟨r, w', m', k1, k2, k3⟩, k4, k5⟩ := appendA_ok (P := C.P) hi (ty := o.type) hz hx hy
            rw [hca]
            simp only [Sem.run_bind, k1, Result.andThen_ok, Sem.run_pure]
            refine ⟨⟨m', k2, k3.stripE⟩, k5, fun e => ?_⟩
            simp only [Bool.or_eq_false_iff] at e
            exact ⟨e.1, append_dirty hb k4 e.2⟩
        · rename_i bb ats vs0 t trest x rest hats
          cases hz : capA C.P t x with
          | none => simp [hz] at he
          | some z =>
            simp only [hz, Option.map_some, Option.some.injEq, Prod.mk.injEq] at he
            obtain ⟨rfl, rfl, rfl⟩ := he
            obtain ⟨u, hu, hx⟩ := hargs.get (i := 0) (x := x) (by simp)
            have ht : c.argTypes[0]? = some t := by rw [← Array.getElem?_toList, hats]; rfl
            obtain ⟨r, k1, k2⟩ := capA_ok (P := C.P) (w := w) (ty := o.type) ht hz (us := c.args.map ρc) (by rw [← Array.getElem?_toList]; exact hu) hx
            simp only [Sem.run_bind, k1, Result.andThen_ok, Sem.run_pure]
            exact OpOk.still hi k2
        · rename_i ts x y
          cases hz : copyA C.P c.argTypes.toList h x y with
          | none => simp [hz] at he
          | some q =>
            obtain ⟨z, h1, wr⟩ := q
            simp only [hz, Option.map_some, Option.some.injEq, Prod.mk.injEq] at he
            obtain ⟨rfl, rfl, rfl⟩ := he
            simp only [VRelL] at hargs
            obtain ⟨u, us, e1, hx, v', vs', e2, hy, e3⟩ := hargs
            have hca : c.args.map ρc = #[u, v'] := by apply Array.ext'; rw [e1, e2, e3]
            obtain ⟨⟨r, w', m', k1, k2, k3⟩, k4, k5⟩ := copyA_ok (P := C.P) hi (ty := o.type) hz hx hy
            rw [hca]
            simp only [Sem.run_bind, k1, Result.andThen_ok, Sem.run_pure]
            refine ⟨⟨m', k2, k3⟩, k5, fun e => ?_⟩
            simp only [Bool.or_eq_false_iff] at e
            exact ⟨e.1, append_dirty hb k4 e.2⟩
        · rename_i ts x
          cases hz : clearA C.P c.argTypes.toList h x with
          | none => simp [hz] at he
          | some q =>
            obtain ⟨z, h1, wr⟩ := q
            simp only [hz, Option.map_some, Option.some.injEq, Prod.mk.injEq] at he
            obtain ⟨rfl, rfl, rfl⟩ := he
            simp only [VRelL] at hargs
            obtain ⟨u, us, e1, hx, e3⟩ := hargs
            have hca : c.args.map ρc = #[u] := by apply Array.ext'; rw [e1, e3]
            obtain ⟨⟨r, w', m', k1, k2, k3⟩, k4, k5⟩ := clearA_ok (P := C.P) hi (ty := o.type) hz hx
            rw [hca]
            simp only [Sem.run_bind, k1, Result.andThen_ok, Sem.run_pure]
            refine ⟨⟨m', k2, k3⟩, k5, fun e => ?_⟩
            simp only [Bool.or_eq_false_iff] at e
            exact ⟨e.1, append_dirty hb k4 e.2⟩
        · cases he
      · rename_i f hcb
        split at he
        · rename_i g first captured hf
          have hx := hρ f _ hf
          simp only [VRel] at hx
          obtain ⟨xs, ys, e, h1, h2⟩ := hx
          simp only [resolve, hcb, e, Deferred.ofValue, Sem.run_bind, Sem.run_pure, Result.andThen_ok, invoke]
          have hall : VRelL m (first ++ vs ++ captured) (xs ++ c.args.map ρc ++ ys).toList := by
            simp only [Array.toList_append]
            exact (h1.append hargs).append h2
          obtain ⟨k1, k2, k3⟩ := callF_ok hC hcall he hi hall
          exact ⟨k1, k2, fun e => ⟨(k3 e).1, fun i hi' => (k3 e).2 i (by omega)⟩⟩
        · cases he
      · rename_i r name hcb
        split at he
        case h_2 => cases he
        rename_i rv hrv
        split at he
        case h_2 => cases he
        rename_i f v0 hm
        obtain ⟨u0, hu0, hr0⟩ := methodA_ok (P := C.P) (w := w) hm (hρ r _ hrv)
        have hrun : ((do let d ← resolve ρc c o.type; invoke d.target d.args) : Sem Next).run C.P w = (callFunc f (#[u0] ++ c.args.map ρc)).run C.P w := by
          simp only [resolve, hcb, Sem.run_bind, Sem.run_pure, Result.andThen_ok, invoke]
          simp only [Array.getElem?_append, List.size_toArray, List.length_cons, List.length_nil]
          have he1 : (#[ρc r] ++ c.args.map ρc).extract 1 (#[ρc r] ++ c.args.map ρc).size = c.args.map ρc := by
            apply Array.ext'
            simp only [Array.toList_extract, List.extract_eq_take_drop]
            simp
            exact List.take_of_length_le (by simp)
          rw [he1]
          have := hr0 (c.args.map ρc)
          simpa using this
        rw [hrun]
        have hall : VRelL m (v0 :: vs) (#[u0] ++ c.args.map ρc).toList := by
          simp only [Array.toList_append]
          exact .cons hu0 hargs
        obtain ⟨k1, k2, k3⟩ := callF_ok hC hcall he hi hall
        exact ⟨k1, k2, fun e => ⟨(k3 e).1, fun i hi' => (k3 e).2 i (by omega)⟩⟩
    · cases he
  · cases he

/-- A frame of the model lies as the evaluator's state says. -/
structure StRel (m : M) (st : St) (a : Act) (w : World) : Prop where
  inv : Inv m st.h w
  fr : VRelL m st.fr a.tmps.toList
  defers : a.defers = []

theorem StRel.eval {m : M} {st : St} {a : Act} {w : World} (h : StRel m st a w) : ∀ x v, evalOperand st.fr x = some v → VRel m v (a.eval x) := by
  intro x v hx
  cases x with
  | tmp t =>
    simp only [evalOperand] at hx
    obtain ⟨u, hu, hv⟩ := h.fr.get hx
    have hu' : a.tmps[t]? = some u := by simpa using hu
    simp only [Act.eval, Array.getD_eq_getD_getElem?, hu', Option.getD_some]
    exact hv
  | const c => exact ofConst_rel hx
  | global g => cases hx
  | func f =>
    simp only [evalOperand, Option.some.injEq] at hx
    subst hx
    simp only [Act.eval, VRel]
    exact ⟨#[], #[], rfl, .nil, .nil⟩

theorem StRel.put {m : M} {st : St} {a : Act} {w : World} {v : AV} {u : Value} (h : StRel m st a w) (hv : VRel m v u) (dst : Option Tmp) : StRel m (st.put dst v) (a.put dst u) w := by
  cases dst with
  | none => exact h
  | some t =>
    refine ⟨h.inv, ?_, h.defers⟩
    simp only [St.put, Act.put, Array.toList_setIfInBounds]
    exact h.fr.set hv t

/-- Slots that hold a test's answer hold it in both. -/
theorem yielded_eq {m : M} {st : St} {a : Act} {w : World} (h : StRel m st a w) (ops : Array Oper) (j : Nat) : yielded ops a.tmps j = yieldedA ops st.fr j := by
  unfold yieldedA yielded
  cases hd : ((ops[j]?).bind (·.dst)) with
  | none => simp
  | some t =>
    simp only [Option.bind_some]
    cases hx : st.fr[t]? with
    | none =>
      have hl := h.fr.length
      have : a.tmps[t]? = none := by
        rw [List.getElem?_eq_none_iff] at hx
        apply Array.getElem?_eq_none
        simp at hl
        omega
      rw [this]
    | some x =>
      obtain ⟨u, hu, hv⟩ := h.fr.get hx
      have hu' : a.tmps[t]? = some u := by simpa using hu
      rw [hu']
      cases x with
      | bool b => rw [hv.bool']
      | raw x => simp only [VRel] at hv; rw [hv.1]; cases x <;> rfl
      | list xs nn cap tok => simp only [VRel] at hv; rcases hv with ⟨_, _, _, _, rfl⟩ | ⟨_, _, _, _, rfl, _⟩ <;> rfl
      | _ =>
        simp only [VRel] at hv
        first
          | (subst hv; rfl)
          | (obtain ⟨_, rfl, _⟩ := hv; rfl)
          | (obtain ⟨_, _, rfl⟩ := hv; rfl)
          | (obtain ⟨_, _, rfl, _⟩ := hv; rfl)
          | (obtain ⟨_, _, _, rfl, _⟩ := hv; rfl)
          | (obtain ⟨_, rfl⟩ := hv; rfl)
theorem wanted_eq {m : M} {st : St} {a : Act} {w : World} (h : StRel m st a w) (ops : Array Oper) (o : Oper) : Region.wanted o (yielded ops a.tmps) = Region.wanted o (yieldedA ops st.fr) := by
  have : yielded ops a.tmps = yieldedA ops st.fr := funext fun j => yielded_eq h ops j
  rw [this]

theorem yielded_rel {m : M} {st : St} {a : Act} {w : World} (h : StRel m st a w) (ops : Array Oper) (o : Oper) (hw : Region.wanted o (yieldedA ops st.fr) = true) : Region.wanted o (yielded ops a.tmps) = true := by
  rw [wanted_eq h]; exact hw

/-- From one state of a frame to a later one. -/
structure StStep (base B : Nat) (m : M) (st : St) (w : World) (m' : M) (st' : St) (a' : Act) (w' : World) : Prop where
  rel : StRel m' st' a' w'
  step : Step B m st.h w m' st'.h w'
  len : st.h.length ≤ st'.h.length
  clean : st'.d = false → st.d = false ∧ ∀ i, i < base → st'.h[i]? = st.h[i]?

theorem StStep.trans {base B : Nat} {m m1 m2 : M} {st st1 st2 : St} {a1 a2 : Act} {w w1 w2 : World} (s : StStep base B m st w m1 st1 a1 w1) (t : StStep base B m1 st1 w1 m2 st2 a2 w2) : StStep base B m st w m2 st2 a2 w2 :=
  ⟨t.rel, s.step.trans t.step, Nat.le_trans s.len t.len, fun e => ⟨(s.clean (t.clean e).1).1, fun i hi => ((t.clean e).2 i hi).trans ((s.clean (t.clean e).1).2 i hi)⟩⟩

theorem stepOp_ok {C : Cfg} (hC : CfgOk C) {call : CallFn} (hcall : CallSpec C.P call) {base B : Nat} {ops : Array Oper} {o : Oper} {st st' : St} (he : stepOp C call base ops o st = some st')
    {m : M} {a : Act} {w : World} (h : StRel m st a w) (hb : base ≤ st.h.length) (hB : B ≤ w.heap.size) {K : Act → World → Prop} {Q : Exit → Act → World → Prop}
    (hk : ∀ m' a' w', StStep base B m st w m' st' a' w' → K a' w') :
    if Region.wanted o (yielded ops a.tmps) then o.wp C.P a w K Q else K (a.put o.dst undef) w := by
  rw [wanted_eq h]
  unfold stepOp at he
  split at he
  · rename_i hw
    rw [if_pos hw]
    split at he
    · rename_i v h1 d1 hev
      simp only [Option.some.injEq] at he
      subst he
      obtain ⟨k1, k2, k3⟩ := evalOp_ok hC hcall hev h.inv hb h.eval
      refine k1.wp ?_
      rintro u w' ⟨m', s, hv⟩
      refine hk m' _ _ ⟨?_, ?_, ?_, ?_⟩
      · have : StRel m' ⟨st.fr, h1, d1⟩ a w' := ⟨s.inv, VRelL.mono s.le _ _ h.fr, h.defers⟩
        exact this.put hv o.dst
      · have := s.mono hB
        cases o.dst <;> exact this
      · cases o.dst <;> exact k2
      · intro e
        have e' : d1 = false := by cases hd : o.dst <;> simpa [St.put, hd] using e
        obtain ⟨c1, c2⟩ := k3 e'
        refine ⟨c1, fun i hi => ?_⟩
        have := c2 i hi
        cases hd : o.dst <;> simpa [St.put, hd] using this
    · cases he
  · rename_i hw
    rw [if_neg hw]
    simp only [Option.some.injEq] at he
    subst he
    refine hk m _ _ ⟨h.put VRel.undef o.dst, ?_, ?_, ?_⟩
    · have := Step.refl (B := B) h.inv
      cases hd : o.dst <;> simpa [St.put, hd] using this
    · cases o.dst <;> exact Nat.le_refl _
    · intro e
      cases hd : o.dst <;> (simp only [St.put, hd] at e ⊢; refine ⟨e, ?_⟩; intros; first | rfl | trivial)

end Go.Proofs.Ytpfdfilkhaoibaa.Ev

/-
  Regions whose order is drawn: the text's order serves every order.
-/
namespace Go.Proofs.Ytpfdfilkhaoibaa.Ev
open Go
set_option linter.unusedVariables false
set_option linter.unusedSimpArgs false

theorem list_mapM_congr {α β : Type} {f g : α → Option β} : ∀ (l : List α), (∀ x ∈ l, f x = g x) → l.mapM f = l.mapM g
  | [], _ => rfl
  | x :: l, h => by rw [List.mapM_cons, List.mapM_cons, h x (by simp), list_mapM_congr l (fun y hy => h y (by simp [hy]))]

theorem evalOp_congr {C : Cfg} {call : CallFn} {base : Nat} {o : Oper} {ρ ρ' : Operand → Option AV} {h : Heap} {d : Bool} (hρ : ∀ x ∈ o.op.operands, ρ x = ρ' x) :
    evalOp C call base o ρ h d = evalOp C call base o ρ' h d := by
  obtain ⟨dst, op, type, pos, after, guard⟩ := o
  have pairs : ∀ ps : Array (Nat × Operand), (∀ x ∈ (ps.toList.map (·.2)), ρ x = ρ' x) →
      ps.toList.mapM (fun p => (ρ p.2).map fun v => (p.1, v)) = ps.toList.mapM (fun p => (ρ' p.2).map fun v => (p.1, v)) := fun ps hp =>
    list_mapM_congr _ fun p hm => by rw [hp p.2 (List.mem_map.2 ⟨p, hm, rfl⟩)]
  cases op <;> simp only [Op.operands] at hρ <;> simp only [evalOp]
  case build t ps => rw [pairs ps fun x hx => hρ x (by simpa using hx)]
  case buildSlice t n ps => rw [pairs ps fun x hx => hρ x (by simpa using hx)]
  case makeFunc fn first captured =>
    rw [list_mapM_congr first.toList fun x hx => hρ x (by simp [Array.mem_toList_iff.1 hx]), list_mapM_congr captured.toList fun x hx => hρ x (by simp [Array.mem_toList_iff.1 hx])]
  case slice t x lo hi mx => cases lo <;> cases hi <;> cases mx <;> simp_all
  case call c =>
    have h1 : c.args.toList.mapM ρ = c.args.toList.mapM ρ' := list_mapM_congr _ fun x hx => hρ x (by simp [Call.operands, Array.mem_toList_iff.1 hx])
    rw [h1]
    cases hc : c.callee with
    | builtin b => rfl
    | value f => have hf : ρ f = ρ' f := hρ f (by simp [Call.operands, hc]); simp only [hf]
    | invoke r m => have hf : ρ r = ρ' r := hρ r (by simp [Call.operands, hc]); simp only [hf]
  all_goals (first | rfl | (simp_all; done))

theorem callF_p {C : Cfg} {call : CallFn} {g : FuncId} (hp : C.isPure g = true) {vs : List AV} {h h' : Heap} {d d' : Bool} {v : AV} (he : callF C call g vs h d = some (v, h', d')) :
    h' = h ∧ d' = d ∧ ∀ h2 d2, callF C call g vs h2 d2 = some (v, h2, d2) := by
  unfold callF at he ⊢
  have hh : C.hprim g = none := by
    simp only [Cfg.isPure, Bool.and_eq_true] at hp
    simpa using hp.1
  simp only [hh] at he ⊢
  cases hq : C.prim g with
  | some p =>
    simp only [hq] at he ⊢
    split at he
    · rename_i hcl
      cases hpv : p (stripL vs) with
      | none => simp [hpv] at he
      | some q =>
        simp only [hpv, Option.bind_some] at he
        split at he
        · rename_i hqc
          simp only [Option.some.injEq, Prod.mk.injEq] at he
          obtain ⟨rfl, rfl, rfl⟩ := he
          exact ⟨rfl, rfl, fun h2 d2 => by simp [hcl, hqc]⟩
        · cases he
    · cases he
  | none =>
    have hm : C.mode g = .pure := by simpa [Cfg.isPure, hq, hh] using hp
    simp only [hq, hm] at he ⊢
    split at he
    · rename_i hcl
      split at he
      · rename_i q h1 d1 hcall
        split at he
        · rename_i hqc
          simp only [Option.some.injEq, Prod.mk.injEq] at he
          obtain ⟨rfl, rfl, rfl⟩ := he
          exact ⟨rfl, rfl, fun h2 d2 => by simp [hcl, hcall, hqc]⟩
        · cases he
      · cases he
    · cases he

theorem map_still {x : Option AV} {h h' : Heap} {d d' : Bool} {v : AV} (he : x.map (fun y => (y, h, d)) = some (v, h', d')) : h' = h ∧ d' = d ∧ ∀ (h2 : Heap) (d2 : Bool), x.map (fun y => (y, h2, d2)) = some (v, h2, d2) := by
  cases x with
  | none => simp at he
  | some y =>
    simp only [Option.map_some, Option.some.injEq, Prod.mk.injEq] at he
    obtain ⟨rfl, rfl, rfl⟩ := he
    exact ⟨rfl, rfl, fun _ _ => rfl⟩

theorem convA_p {P : Program} {s t : TypeId} {h h' : Heap} {a z : AV} (hc : convCls P s t = .p) (he : convA P s t h a = some (z, h')) : h' = h ∧ ∀ h2, convA P s t h2 a = some (z, h2) := by
  unfold convCls at hc
  unfold convA at he ⊢
  split at he
  · rename_i k k0 n hs hd
    simp only [Option.some.injEq, Prod.mk.injEq] at he
    obtain ⟨rfl, rfl⟩ := he
    exact ⟨rfl, fun h2 => by simp [hs, hd]⟩
  · rename_i str hs hd
    simp only [Option.some.injEq, Prod.mk.injEq] at he
    obtain ⟨rfl, rfl⟩ := he
    exact ⟨rfl, fun h2 => by simp [hs, hd]⟩
  · rename_i e str hs hd
    rw [hd] at hc
    cases hc
  · rename_i e hs hd
    rw [hd, hs] at hc
    cases hc
  · rename_i e0 e xs c τ hs hd
    rw [hd] at hc
    cases hc
  · cases he

theorem convA_r {P : Program} {s t : TypeId} {h h' : Heap} {a z : AV} (hc : convCls P s t = .r) (he : convA P s t h a = some (z, h')) : h' = h := by
  unfold convCls at hc
  unfold convA at he
  split at he
  · rename_i k k0 n hs hd
    simp only [Option.some.injEq, Prod.mk.injEq] at he
    exact he.2.symm
  · simp only [Option.some.injEq, Prod.mk.injEq] at he
    exact he.2.symm
  · rename_i e str hs hd
    rw [hd] at hc
    cases hc
  · rename_i e hs hd
    repeat' split at he
    all_goals first
      | (cases he; done)
      | (simp only [Option.some.injEq, Prod.mk.injEq] at he; exact he.2.symm)
      | (simp only [Option.map_eq_some_iff] at he; obtain ⟨s, _, he⟩ := he; cases he; rfl)
  · rename_i e0 e xs c τ hs hd
    rw [hd] at hc
    cases hc
  · cases he

theorem eqA_np {P : Program} {t : TypeId} (ht : tyPtr P t = false) (h h2 : Heap) (x y : AV) : eqA P t h x y = eqA P t h2 x y := by
  unfold eqA
  split <;> first | rfl | skip
  unfold tyPtr at ht
  split <;> first | rfl | simp_all
theorem binA_np {P : Program} {op : BinOp} {t : TypeId} (ht : tyPtr P t = false) (h h2 : Heap) (x y : AV) : binA P op t h x y = binA P op t h2 x y := by
  unfold binA
  split <;> first | rfl | rw [eqA_np ht h h2]

theorem evalOp_p {C : Cfg} {call : CallFn} {base : Nat} {o : Oper} {fr : List AV} {h h' : Heap} {d d' : Bool} {v : AV} (hc : cls C o = .p) (he : evalOp C call base o (evalOperand fr) h d = some (v, h', d')) :
    h' = h ∧ d' = d ∧ ∀ h2 d2, evalOp C call base o (evalOperand fr) h2 d2 = some (v, h2, d2) := by
  obtain ⟨dst, op, type, pos, after, guard⟩ := o
  cases op <;> simp only [cls] at hc <;> simp only [evalOp] at he ⊢
  case convert s t x =>
    split at he
    · rename_i a ha
      cases hz : convA C.P s t h a with
      | none => simp [hz] at he
      | some q =>
        obtain ⟨z, h1⟩ := q
        simp only [hz, Option.map_some, Option.some.injEq, Prod.mk.injEq] at he
        obtain ⟨rfl, rfl, rfl⟩ := he
        obtain ⟨rfl, k⟩ := convA_p hc hz
        exact ⟨rfl, rfl, fun h2 d2 => by simp [k h2]⟩
    · cases he
  case call c =>
    split at he
    · rename_i vs hvs
      cases hcb : c.callee with
      | builtin b =>
        simp only [hcb] at he hc ⊢
        cases b <;> simp only at hc <;> first | (cases hc; done) | skip
        all_goals (split at he)
        all_goals first
          | (exact map_still he)
          | (cases he; done)
          | (simp_all; done)
      | value f =>
        simp only [hcb] at he hc ⊢
        cases f with
        | func g =>
          simp only at hc
          split at hc
          · rename_i hp
            simp only [evalOperand] at he ⊢
            exact callF_p hp he
          · cases hc
        | _ => cases hc
      | invoke r m => simp [hcb] at hc
    · cases he
  case buildSlice t n ps =>
    split at hc
    · cases hc
    · rename_i hf
      simp only [Bool.or_eq_true, not_or] at hf
      simp only [if_neg hf.1, if_neg hf.2] at he ⊢
      split at he
      · exact map_still he
      · cases he
  case binOp op t x y _ =>
    split at hc
    · cases hc
    · rename_i hf
      have hf' : tyPtr C.P t = false := by simpa using hf
      split at he
      · rename_i a b ha hb
        split at he
        · rename_i hn
          obtain ⟨r1, r2, r3⟩ := map_still he
          refine ⟨r1, r2, fun h2 d2 => ?_⟩
          rw [if_pos hn, binA_np hf' h2 h]
          exact r3 h2 d2
        · cases he
      · cases he
  all_goals first
    | (cases hc; done)
    | (exact map_still he)
    | (cases he; done)
    | skip
  all_goals (split at he)
  all_goals first
    | (exact map_still he)
    | (cases he; done)
    | (simp only [Option.some.injEq, Prod.mk.injEq] at he; obtain ⟨rfl, rfl, rfl⟩ := he; exact ⟨rfl, rfl, fun _ _ => rfl⟩)

theorem evalOp_r {C : Cfg} {call : CallFn} {base : Nat} {o : Oper} {ρ : Operand → Option AV} {h h' : Heap} {d d' : Bool} {v : AV} (hc : cls C o = .r) (he : evalOp C call base o ρ h d = some (v, h', d')) :
    h' = h ∧ d' = d := by
  obtain ⟨dst, op, type, pos, after, guard⟩ := o
  cases op <;> simp only [cls] at hc <;> (try (cases hc; done)) <;> simp only [evalOp] at he
  case buildSlice t n ps => split at hc <;> cases hc
  case binOp op t x y _ =>
    split at he
    · split at he
      · exact ⟨(map_still he).1, (map_still he).2.1⟩
      · cases he
    · cases he
  case load t a =>
    split at he
    · exact ⟨(map_still he).1, (map_still he).2.1⟩
    · cases he
  case convert s t x =>
    split at he
    · rename_i a ha
      cases hz : convA C.P s t h a with
      | none => simp [hz] at he
      | some q =>
        obtain ⟨z, h1⟩ := q
        simp only [hz, Option.map_some, Option.some.injEq, Prod.mk.injEq] at he
        obtain ⟨rfl, rfl, rfl⟩ := he
        exact ⟨convA_r hc hz, rfl⟩
    · cases he
  case call c =>
    cases hcb : c.callee with
    | builtin b => simp only [hcb] at hc; cases b <;> cases hc
    | value f =>
      simp only [hcb] at hc
      cases f with
      | func g => simp only at hc; split at hc <;> cases hc
      | _ => cases hc
    | invoke r m => simp only [hcb] at hc; cases hc

theorem heap_ext {h : Heap} {b : Nat} {x : AO} (o : AO) (e : h[b]? = some x) : (h ++ [o])[b]? = some x := by
  rw [List.getElem?_append_left (List.getElem?_eq_some_iff.1 e).1]; exact e
theorem loadA_ext {P : Program} {t : TypeId} {h : Heap} {x v : AV} (o : AO) (he : loadA P t h x = some v) : loadA P t (h ++ [o]) x = some v := by
  cases x with
  | ptr b k =>
    simp only [loadA] at he ⊢
    split at he
    · rename_i cs hb
      rw [heap_ext o hb]
      exact he
    · cases he
  | _ => exact he
theorem eqA_ext {P : Program} {t : TypeId} {h : Heap} {x y : AV} {b : Bool} (o : AO) (he : eqA P t h x y = some b) : eqA P t (h ++ [o]) x y = some b := by
  unfold eqA at he ⊢
  split <;> simp only at he <;> first | exact he | skip
  split at he
  · split at he
    · split at he
      · rename_i e hu _ k hs _ _ c1 c2 hb hb'
        simp only [hu, hs, heap_ext o hb, heap_ext o hb']
        exact he
      · cases he
    · cases he
  · cases he
theorem binA_ext {P : Program} {op : BinOp} {t : TypeId} {h : Heap} {x y z : AV} (o : AO) (he : binA P op t h x y = some z) : binA P op t (h ++ [o]) x y = some z := by
  unfold binA at he ⊢
  split <;> simp only at he <;> first | exact he | skip
  · obtain ⟨b, hb, rfl⟩ := Option.map_eq_some_iff.1 he
    rw [eqA_ext o hb]; rfl
  · obtain ⟨b, hb, rfl⟩ := Option.map_eq_some_iff.1 he
    rw [eqA_ext o hb]; rfl
theorem convA_ext {P : Program} {s t : TypeId} {h h' : Heap} {a z : AV} (o : AO) (hc : convCls P s t = .r) (he : convA P s t h a = some (z, h')) : convA P s t (h ++ [o]) a = some (z, h ++ [o]) := by
  unfold convCls at hc
  unfold convA at he ⊢
  split at he
  · rename_i k k0 n hs hd
    rw [hd] at hc; cases hc
  · rename_i str hs hd
    rw [hd, hs] at hc; cases hc
  · rename_i e str hs hd
    rw [hd] at hc
    cases hc
  · rename_i e hs hd
    split at he
    · rename_i hu
      split at he
      · simp only [Option.some.injEq, Prod.mk.injEq] at he; obtain ⟨rfl, _⟩ := he; rfl
      · rename_i xs _ _ _
        obtain ⟨s, h1, h2⟩ := Option.map_eq_some_iff.1 he
        cases h2
        simp only [h1, Option.map_some]
      · rename_i b o' len _ _ _
        split at he
        · rename_i cs hb
          split at he
          · rename_i hc'
            obtain ⟨s, h1, h2⟩ := Option.map_eq_some_iff.1 he
            cases h2
            simp only [heap_ext o hb, if_pos hc', h1, Option.map_some]
          · cases he
        · cases he
      · cases he
    · cases he
  · rename_i e0 e xs c τ hs hd
    rw [hd] at hc
    cases hc
  · cases he

theorem evalOp_ext {C : Cfg} {call : CallFn} {base : Nat} {o : Oper} {ρ : Operand → Option AV} {h h' : Heap} {d d' : Bool} {v : AV} (x : AO) (hc : cls C o = .r) (he : evalOp C call base o ρ h d = some (v, h', d')) (d2 : Bool) :
    evalOp C call base o ρ (h ++ [x]) d2 = some (v, h ++ [x], d2) := by
  obtain ⟨dst, op, type, pos, after, guard⟩ := o
  cases op <;> simp only [cls] at hc <;> (try (cases hc; done)) <;> simp only [evalOp] at he ⊢
  case buildSlice t n ps => split at hc <;> cases hc
  case binOp op t x' y _ =>
    split at he
    · rename_i a b ha hb
      split at he
      · rename_i hn
        obtain ⟨z, h1, h2⟩ := Option.map_eq_some_iff.1 he
        cases h2
        rw [if_pos hn, binA_ext x h1]; rfl
      · cases he
    · cases he
  case load t a =>
    split at he
    · obtain ⟨z, h1, h2⟩ := Option.map_eq_some_iff.1 he
      cases h2
      rw [loadA_ext x h1]; rfl
    · cases he
  case convert s t y =>
    split at he
    · rename_i a ha
      obtain ⟨⟨z, h1⟩, h2, h3⟩ := Option.map_eq_some_iff.1 he
      cases h3
      rw [convA_ext x hc h2]; rfl
    · cases he
  case call c =>
    cases hcb : c.callee with
    | builtin b => simp only [hcb] at hc; cases b <;> cases hc
    | value f =>
      simp only [hcb] at hc
      cases f with
      | func g => simp only at hc; split at hc <;> cases hc
      | _ => cases hc
    | invoke r m => simp only [hcb] at hc; cases hc
/-- A new object: it lies at the end. -/
theorem evalOp_a {C : Cfg} {call : CallFn} {base : Nat} {o : Oper} {ρ : Operand → Option AV} {h h' : Heap} {d d' : Bool} {v : AV} (hc : cls C o = .a) (he : evalOp C call base o ρ h d = some (v, h', d')) : d' = d ∧ ∃ x, h' = h ++ [x] := by
  obtain ⟨dst, op, type, pos, after, guard⟩ := o
  cases op <;> simp only [cls] at hc <;> (try (cases hc; done)) <;> simp only [evalOp] at he
  case alloc t =>
    split at he
    · split at he
      · simp only [Option.some.injEq, Prod.mk.injEq] at he; exact ⟨he.2.2.symm, _, he.2.1.symm⟩
      · cases he
    · cases he
  case box t y =>
    split at he
    · split at he
      · simp only [Option.some.injEq, Prod.mk.injEq] at he; exact ⟨he.2.2.symm, _, he.2.1.symm⟩
      · cases he
    · cases he
  case buildSlice t n ps => split at hc <;> cases hc
  case binOp op t x' y _ => split at hc <;> cases hc
  case convert s t y =>
    unfold convCls at hc
    split at hc
    · cases hc
    · split at hc <;> cases hc
    · cases hc
  case call c =>
    cases hcb : c.callee with
    | builtin b => simp only [hcb] at hc; cases b <;> cases hc
    | value f =>
      simp only [hcb] at hc
      cases f with
      | func g => simp only at hc; split at hc <;> cases hc
      | _ => cases hc
    | invoke r m => simp only [hcb] at hc; cases hc

/-- Two operations of which neither waits for the other and that do not disturb each other. -/
def compat : Cls → Cls → Bool
  | .p, _ => true
  | _, .p => true
  | .r, .r => true
  | .r, .a => true
  | _, _ => false

theorem evalOperand_put {st : St} {dst : Option Tmp} {v : AV} {x : Operand} (h : ∀ d, dst = some d → x ≠ .tmp d) : evalOperand (st.put dst v).fr x = evalOperand st.fr x := by
  cases dst with
  | none => rfl
  | some d =>
    cases x with
    | tmp t =>
      have hne : d ≠ t := fun e => h d rfl (e ▸ rfl)
      simp [evalOperand, St.put, List.getElem?_set_ne hne]
    | _ => rfl

theorem operands_put {ops : Array Oper} {o : Oper} {st : St} {dst : Option Tmp} {v : AV} (h : ∀ d, dst = some d → d ∉ o.looksAt ops) : ∀ x ∈ o.op.operands, evalOperand (st.put dst v).fr x = evalOperand st.fr x :=
  fun x hx => evalOperand_put fun d hd hxd => h d hd (by
    subst hxd
    exact List.mem_append_left _ (List.mem_filterMap.2 ⟨.tmp d, by simpa using hx, rfl⟩))

theorem wantedA_put {ops : Array Oper} {o : Oper} {st : St} {dst : Option Tmp} {v : AV} (h : ∀ d, dst = some d → d ∉ o.looksAt ops) :
    Region.wanted o (yieldedA ops (st.put dst v).fr) = Region.wanted o (yieldedA ops st.fr) := by
  cases dst with
  | none => rfl
  | some d =>
    unfold Region.wanted
    cases hg : o.guard with
    | none => rfl
    | some gw =>
      obtain ⟨g, want⟩ := gw
      have hy : yieldedA ops (st.put (some d) v).fr g = yieldedA ops st.fr g := by
        unfold yieldedA
        cases ht : (ops[g]?).bind (·.dst) with
        | none => rfl
        | some t =>
          have hne : d ≠ t := fun e => h d rfl (by subst e; simp [Oper.looksAt, hg, ht])
          simp [St.put, List.getElem?_set_ne hne]
      simp only [hy]

theorem put_comm' (fr : List AV) (h1 h2 : Heap) {x y : Option Tmp} (v u : AV) (hne : ∀ d, x = some d → y ≠ some d) (h : Heap) (d : Bool) :
    (St.put ⟨(St.put ⟨fr, h1, d⟩ x v).fr, h, d⟩ y u) = (St.put ⟨(St.put ⟨fr, h2, d⟩ y u).fr, h, d⟩ x v) := by
  cases x with
  | none => cases y <;> rfl
  | some a =>
    cases y with
    | none => rfl
    | some b =>
      have hab : a ≠ b := fun e => hne a rfl (e ▸ rfl)
      simp [St.put, List.set_comm _ _ hab]

theorem put_h (fr : List AV) (h : Heap) (d : Bool) (x : Option Tmp) (v : AV) : (St.put ⟨fr, h, d⟩ x v).h = h ∧ (St.put ⟨fr, h, d⟩ x v).d = d := by cases x <;> exact ⟨rfl, rfl⟩
theorem put_fr (fr : List AV) (h h2 : Heap) (d d2 : Bool) (x : Option Tmp) (v : AV) : (St.put ⟨fr, h, d⟩ x v).fr = (St.put ⟨fr, h2, d2⟩ x v).fr := by cases x <;> rfl
theorem put_mk (fr : List AV) (h : Heap) (d : Bool) (x : Option Tmp) (v : AV) : St.put ⟨fr, h, d⟩ x v = ⟨(St.put ⟨fr, h, d⟩ x v).fr, h, d⟩ := by cases x <;> rfl

/-- What a step does, laid out. -/
theorem stepOp_cases {C : Cfg} {call : CallFn} {base : Nat} {ops : Array Oper} {o : Oper} {st st' : St} (he : stepOp C call base ops o st = some st') :
    (Region.wanted o (yieldedA ops st.fr) = true ∧ ∃ v h d, evalOp C call base o (evalOperand st.fr) st.h st.d = some (v, h, d) ∧ st' = St.put ⟨st.fr, h, d⟩ o.dst v) ∨
    (Region.wanted o (yieldedA ops st.fr) = false ∧ st' = st.put o.dst .undef) := by
  unfold stepOp at he
  split at he
  · rename_i hw
    split at he
    · rename_i v h d hev
      simp only [Option.some.injEq] at he
      exact .inl ⟨hw, v, h, d, hev, he.symm⟩
    · cases he
  · rename_i hw
    simp only [Option.some.injEq] at he
    exact .inr ⟨by simpa using hw, he.symm⟩

theorem step_swap {C : Cfg} {call : CallFn} {base : Nat} {ops : Array Oper} {oi oj : Oper} (hap : oi.apart ops oj = true) (hcm : compat (cls C oi) (cls C oj) = true) {st si sij : St}
    (h1 : stepOp C call base ops oi st = some si) (h2 : stepOp C call base ops oj si = some sij) : ∃ sj, stepOp C call base ops oj st = some sj ∧ stepOp C call base ops oi sj = some sij := by
  obtain ⟨a1, a2, a3⟩ := Oper.apart_spec hap
  obtain ⟨fr, h, d⟩ := st
  rcases stepOp_cases h1 with ⟨wi, v, hi, di, ei, rfl⟩ | ⟨wi, rfl⟩
  · simp only at wi ei
    have frI : ∀ x ∈ oj.op.operands, evalOperand (St.put ⟨fr, hi, di⟩ oi.dst v).fr x = evalOperand fr x := operands_put (st := ⟨fr, hi, di⟩) a1
    have wj0 : Region.wanted oj (yieldedA ops (St.put ⟨fr, hi, di⟩ oi.dst v).fr) = Region.wanted oj (yieldedA ops fr) := wantedA_put (st := ⟨fr, hi, di⟩) a1
    rcases stepOp_cases h2 with ⟨wj, u, hj, dj, ej, rfl⟩ | ⟨wj, rfl⟩
    · rw [wj0] at wj
      rw [evalOp_congr frI, (put_h fr hi di oi.dst v).1, (put_h fr hi di oi.dst v).2] at ej
      -- j ahead of i
      have key : ∃ hj' dj', evalOp C call base oj (evalOperand fr) h d = some (u, hj', dj') ∧ evalOp C call base oi (evalOperand fr) hj' dj' = some (v, hj, dj) := by
        cases hci : cls C oi with
        | p =>
          obtain ⟨rfl, rfl, k⟩ := evalOp_p hci ei
          exact ⟨hj, dj, ej, k _ _⟩
        | r =>
          obtain ⟨rfl, rfl⟩ := evalOp_r hci ei
          cases hcj : cls C oj with
          | p =>
            obtain ⟨rfl, rfl, k⟩ := evalOp_p hcj ej
            exact ⟨_, _, ej, ei⟩
          | r =>
            obtain ⟨rfl, rfl⟩ := evalOp_r hcj ej
            exact ⟨_, _, ej, ei⟩
          | a =>
            obtain ⟨rfl, x, rfl⟩ := evalOp_a hcj ej
            exact ⟨_, _, ej, evalOp_ext x hci ei _⟩
          | s => rw [hci, hcj] at hcm; cases hcm
        | a =>
          cases hcj : cls C oj with
          | p =>
            obtain ⟨rfl, rfl, k⟩ := evalOp_p hcj ej
            exact ⟨h, d, k _ _, ei⟩
          | r => rw [hci, hcj] at hcm; cases hcm
          | a => rw [hci, hcj] at hcm; cases hcm
          | s => rw [hci, hcj] at hcm; cases hcm
        | s =>
          cases hcj : cls C oj with
          | p =>
            obtain ⟨rfl, rfl, k⟩ := evalOp_p hcj ej
            exact ⟨h, d, k _ _, ei⟩
          | r => rw [hci, hcj] at hcm; cases hcm
          | a => rw [hci, hcj] at hcm; cases hcm
          | s => rw [hci, hcj] at hcm; cases hcm
      obtain ⟨hj', dj', e1, e2⟩ := key
      refine ⟨St.put ⟨fr, hj', dj'⟩ oj.dst u, by simp only [stepOp, wj, if_true, e1], ?_⟩
      have frJ : ∀ x ∈ oi.op.operands, evalOperand (St.put ⟨fr, hj', dj'⟩ oj.dst u).fr x = evalOperand fr x := operands_put (st := ⟨fr, hj', dj'⟩) a3
      have wi0 : Region.wanted oi (yieldedA ops (St.put ⟨fr, hj', dj'⟩ oj.dst u).fr) = Region.wanted oi (yieldedA ops fr) := wantedA_put (st := ⟨fr, hj', dj'⟩) a3
      simp only [stepOp, wi0, wi, if_true, evalOp_congr frJ, (put_h fr hj' dj' oj.dst u).1, (put_h fr hj' dj' oj.dst u).2, e2]
      rw [put_fr fr hj' hj dj' dj oj.dst u, put_fr fr hi hj di dj oi.dst v]
      exact congrArg some (put_comm' fr hj hj v u a2 hj dj).symm
    · rw [wj0] at wj
      refine ⟨St.put ⟨fr, h, d⟩ oj.dst .undef, by simp only [stepOp, wj, Bool.false_eq_true, if_false], ?_⟩
      have frJ : ∀ x ∈ oi.op.operands, evalOperand (St.put ⟨fr, h, d⟩ oj.dst .undef).fr x = evalOperand fr x := operands_put (st := ⟨fr, h, d⟩) a3
      have wi0 : Region.wanted oi (yieldedA ops (St.put ⟨fr, h, d⟩ oj.dst .undef).fr) = Region.wanted oi (yieldedA ops fr) := wantedA_put (st := ⟨fr, h, d⟩) a3
      simp only [stepOp, wi0, wi, if_true, evalOp_congr frJ, (put_h fr h d oj.dst .undef).1, (put_h fr h d oj.dst .undef).2, ei]
      rw [put_mk fr hi di oi.dst v, put_fr fr h hi d di oj.dst .undef]
      exact congrArg some (put_comm' fr hi hi v .undef a2 hi di).symm
  · simp only at wi
    have frI : ∀ x ∈ oj.op.operands, evalOperand (St.put ⟨fr, h, d⟩ oi.dst .undef).fr x = evalOperand fr x := operands_put (st := ⟨fr, h, d⟩) a1
    have wj0 : Region.wanted oj (yieldedA ops (St.put ⟨fr, h, d⟩ oi.dst .undef).fr) = Region.wanted oj (yieldedA ops fr) := wantedA_put (st := ⟨fr, h, d⟩) a1
    rcases stepOp_cases h2 with ⟨wj, u, hj, dj, ej, rfl⟩ | ⟨wj, rfl⟩
    · rw [wj0] at wj
      rw [evalOp_congr frI, (put_h fr h d oi.dst .undef).1, (put_h fr h d oi.dst .undef).2] at ej
      refine ⟨St.put ⟨fr, hj, dj⟩ oj.dst u, by simp only [stepOp, wj, if_true, ej], ?_⟩
      have wi0 : Region.wanted oi (yieldedA ops (St.put ⟨fr, hj, dj⟩ oj.dst u).fr) = Region.wanted oi (yieldedA ops fr) := wantedA_put (st := ⟨fr, hj, dj⟩) a3
      simp only [stepOp, wi0, wi, Bool.false_eq_true, if_false]
      rw [put_mk fr hj dj oj.dst u, put_fr fr h hj d dj oi.dst .undef]
      exact congrArg some (put_comm' fr hj hj .undef u a2 hj dj).symm
    · rw [wj0] at wj
      refine ⟨St.put ⟨fr, h, d⟩ oj.dst .undef, by simp only [stepOp, wj, Bool.false_eq_true, if_false], ?_⟩
      have wi0 : Region.wanted oi (yieldedA ops (St.put ⟨fr, h, d⟩ oj.dst .undef).fr) = Region.wanted oi (yieldedA ops fr) := wantedA_put (st := ⟨fr, h, d⟩) a3
      simp only [stepOp, wi0, wi, Bool.false_eq_true, if_false]
      rw [put_mk fr h d oj.dst .undef, put_mk fr h d oi.dst .undef]
      exact congrArg some (put_comm' fr h h .undef .undef a2 h d).symm

end Go.Proofs.Ytpfdfilkhaoibaa.Ev

/-
  Regions, code, functions: what the evaluator says, the model does.
-/
namespace Go.Proofs.Ytpfdfilkhaoibaa.Ev
open Go
set_option linter.unusedVariables false
set_option linter.unusedSimpArgs false

/-- Operation number i. -/
def stepI (C : Cfg) (call : CallFn) (base : Nat) (ops : Array Oper) (i : Nat) (st : St) : Option St :=
  match ops[i]? with
  | none => some st
  | some o => stepOp C call base ops o st

/-- Whatever order is picked from here on, the evaluator ends in 'fin'. -/
def anyA (C : Cfg) (call : CallFn) (base : Nat) (ops : Array Oper) (fin : St) : Nat → Array Bool → St → Prop
  | 0, listed, st => Region.ready .any ops listed = [] ∧ st = fin
  | fuel + 1, listed, st =>
    (Region.ready .any ops listed = [] → st = fin) ∧
    ∀ i ∈ Region.ready .any ops listed, ∃ st', stepI C call base ops i st = some st' ∧ anyA C call base ops fin fuel (listed.setIfInBounds i true) st'

/-- An operation that may come up now may be taken first. -/
theorem anyA_first {C : Cfg} {call : CallFn} {base : Nat} {ops : Array Oper} {fin : St} {i : Nat} {oi : Oper} (hi : ops[i]? = some oi) (D : List Nat) :
    ∀ (fuel : Nat) (listed : Array Bool) (st si : St),
      (∀ j oj, ops[j]? = some oj → j ≠ i → listed.getD j true = false → j ∉ D → oi.apart ops oj = true ∧ compat (cls C oi) (cls C oj) = true) →
      (∀ j ∈ D, listed.getD j true = false ∧ ∃ oj, ops[j]? = some oj ∧ ∃ e ∈ oj.after, Region.binds .any e = true ∧ (e.on = i ∨ e.on ∈ D)) →
      i ∈ Region.ready .any ops listed → stepOp C call base ops oi st = some si →
      anyA C call base ops fin fuel (listed.setIfInBounds i true) si → anyA C call base ops fin (fuel + 1) listed st := by
  intro fuel
  induction fuel with
  | zero =>
    intro listed st si _ _ hr hs H
    refine ⟨fun h => (by rw [h] at hr; cases hr), fun j hj => ?_⟩
    by_cases hji : j = i
    · subst hji; exact ⟨si, by simp only [stepI, hi]; exact hs, H⟩
    · have := ready_mono hj hji
      rw [H.1] at this
      cases this
  | succ fuel ih =>
    intro listed st si hfree hD hr hs H
    refine ⟨fun h => (by rw [h] at hr; cases hr), fun j hj => ?_⟩
    by_cases hji : j = i
    · subst hji; exact ⟨si, by simp only [stepI, hi]; exact hs, H⟩
    · obtain ⟨sij, h1, h2⟩ := H.2 j (ready_mono hj hji)
      obtain ⟨hjun, oj, hoj, hall⟩ := mem_ready.1 hj
      have hnot : j ∉ D := fun hjD => by
        obtain ⟨_, oj', hoj', e, he, hb, hon⟩ := hD j hjD
        rw [hoj] at hoj'
        cases hoj'
        have h1 := hall e he hb
        have h0 : listed.getD e.on true = false := by
          rcases hon with hon | hon
          · rw [hon]; exact (mem_ready.1 hr).1
          · exact (hD _ hon).1
        rcases Nat.lt_or_ge e.on listed.size with h' | h'
        · simp [h'] at h0 h1; rw [h0] at h1; cases h1
        · simp [Array.getElem?_eq_none h'] at h1
      simp only [stepI, hoj] at h1
      obtain ⟨a1, a2⟩ := hfree j oj hoj hji hjun hnot
      obtain ⟨sj, k1, k2⟩ := step_swap a1 a2 hs h1
      refine ⟨sj, by simp only [stepI, hoj]; exact k1, ?_⟩
      refine ih (listed.setIfInBounds j true) sj sij ?_ ?_ (ready_mono hr (Ne.symm hji)) k2 ?_
      · intro k ok hk hki hun hno
        refine hfree k ok hk hki ?_ hno
        by_cases hjk : j = k
        · subst hjk; exact hjun
        · rw [getD_set_ne true hjk] at hun; exact hun
      · intro k hk
        obtain ⟨q1, q2⟩ := hD k hk
        refine ⟨?_, q2⟩
        rw [getD_set_ne true (fun e => hnot (by rw [e]; exact hk))]
        exact q1
      · rw [Array.setIfInBounds_comm _ _ hji]
        exact h2

def edgeTo (ops : Array Oper) (i : Nat) (d : List Nat) (n : Nat) : Bool :=
  match ops[n]? with | some o => o.after.any (fun e => Region.binds .any e && (e.on == i || d.contains e.on)) | none => false
/-- The operations that wait for operation i, one behind the other. -/
def waits (ops : Array Oper) (listed : Array Bool) (i : Nat) : Nat → List Nat
  | 0 => []
  | n + 1 =>
    if n ≠ i ∧ listed.getD n true = false ∧ edgeTo ops i (waits ops listed i n) n = true then n :: waits ops listed i n
    else waits ops listed i n
theorem waits_spec {ops : Array Oper} {listed : Array Bool} {i : Nat} : ∀ (n j : Nat), j ∈ waits ops listed i n → listed.getD j true = false ∧ ∃ oj, ops[j]? = some oj ∧ ∃ e ∈ oj.after, Region.binds .any e = true ∧ (e.on = i ∨ e.on ∈ waits ops listed i n)
  | 0, j, h => by simp [waits] at h
  | n + 1, j, h => by
    have sub : ∀ k, k ∈ waits ops listed i n → k ∈ waits ops listed i (n + 1) := fun k hk => by
      rw [waits]
      split
      · exact List.mem_cons_of_mem _ hk
      · exact hk
    have old : j ∈ waits ops listed i n → listed.getD j true = false ∧ ∃ oj, ops[j]? = some oj ∧ ∃ e ∈ oj.after, Region.binds .any e = true ∧ (e.on = i ∨ e.on ∈ waits ops listed i (n + 1)) := fun hj => by
      obtain ⟨h1, oj, h2, e, h3, h4, h5⟩ := waits_spec n j hj
      exact ⟨h1, oj, h2, e, h3, h4, h5.imp id (sub _)⟩
    rw [waits] at h
    split at h
    · rename_i hc
      obtain ⟨_, c2, c3⟩ := hc
      rcases List.mem_cons.1 h with e | e
      · subst e
        refine ⟨c2, ?_⟩
        unfold edgeTo at c3
        split at c3
        · rename_i o ho
          obtain ⟨e, he, hb⟩ := Array.any_eq_true'.1 c3
          simp only [Bool.and_eq_true, Bool.or_eq_true, beq_iff_eq, List.contains_iff_mem] at hb
          exact ⟨o, ho, e, he, hb.1, hb.2.imp id (sub _)⟩
        · cases c3
      · exact old e
    · exact old h
/-- Nothing that has not come up yet is disturbed by operation i, but what waits for it. -/
def freeA (C : Cfg) (ops : Array Oper) (listed : Array Bool) (i : Nat) : Bool :=
  match ops[i]? with
  | none => false
  | some oi => (List.range ops.size).all fun j => j == i || listed.getD j true || (waits ops listed i ops.size).contains j || match ops[j]? with
      | some oj => oi.apart ops oj && compat (cls C oi) (cls C oj)
      | none => true

theorem freeA_spec {C : Cfg} {ops : Array Oper} {i : Nat} {oi : Oper} {listed : Array Bool} (hi : ops[i]? = some oi) (h : freeA C ops listed i = true) (j : Nat) (oj : Oper)
    (hj : ops[j]? = some oj) (hne : j ≠ i) (hun : listed.getD j true = false) (hno : j ∉ waits ops listed i ops.size) :
    oi.apart ops oj = true ∧ compat (cls C oi) (cls C oj) = true := by
  simp only [freeA, hi, List.all_eq_true, List.mem_range] at h
  have h1 := h j (Array.getElem?_eq_some_iff.1 hj).1
  simpa only [hj, Bool.or_eq_true, beq_iff_eq, hne, false_or, hun, Bool.false_eq_true, Bool.and_eq_true, List.contains_iff_mem, hno] using h1

def lexA (C : Cfg) (ops : Array Oper) : Nat → Nat → Array Bool → Bool
  | 0, _, listed => (Region.ready .any ops listed).isEmpty
  | fuel + 1, k, listed => (Region.ready .any ops listed).contains k && freeA C ops listed k && lexA C ops fuel (k + 1) (listed.setIfInBounds k true)

theorem anyA_lex {C : Cfg} {call : CallFn} {base : Nat} {ops : Array Oper} {fin : St} : ∀ (l : List Oper) (k : Nat) (listed : Array Bool) (st : St), (∀ j, l[j]? = ops[k + j]?) →
    lexA C ops l.length k listed = true → evalOps C call base ops l st = some fin → anyA C call base ops fin l.length listed st
  | [], _, _, _, _, hB, h => by
    simp only [evalOps, Option.some.injEq] at h
    exact ⟨by simpa [lexA] using hB, h⟩
  | o :: l, k, listed, st, hl, hB, h => by
    have h0 : ops[k]? = some o := by simpa using (hl 0).symm
    simp only [List.length_cons, lexA, Bool.and_eq_true] at hB
    obtain ⟨⟨hr, hf⟩, hB'⟩ := hB
    simp only [evalOps] at h
    split at h
    · rename_i s1 hs
      exact anyA_first h0 (waits ops listed k ops.size) l.length listed st s1 (freeA_spec h0 hf) (waits_spec ops.size) (by simpa using hr) hs
        (anyA_lex l (k + 1) _ _ (fun j => by have := hl (j + 1); simpa [Nat.add_assoc, Nat.add_comm 1 j] using this) hB' h)
    · cases h

section
variable {C : Cfg} (hC : CfgOk C) {call : CallFn} (hcall : CallSpec C.P call) {base B : Nat} {ops : Array Oper} {Q : Exit → Act → World → Prop}
include hC hcall

theorem anyA_wp {fin : St} : ∀ (fuel : Nat) (listed : Array Bool) (st : St) (m : M) (a : Act) (w : World), anyA C call base ops fin fuel listed st → StRel m st a w → base ≤ st.h.length → B ≤ w.heap.size →
    (∀ m' a' w', StStep base B m st w m' fin a' w' → Q .normal a' w') → wpAny C.P .any ops Q fuel listed a w
  | 0, listed, st, m, a, w, h, hr, hb, hB, hk => by
    obtain ⟨h1, rfl⟩ := h
    exact ⟨h1, hk m a w ⟨hr, Step.refl hr.inv, Nat.le_refl _, fun e => ⟨e, fun _ _ => rfl⟩⟩⟩
  | fuel + 1, listed, st, m, a, w, h, hr, hb, hB, hk => by
    refine ⟨fun h0 => ?_, fun i hi => ?_⟩
    · have := h.1 h0
      subst this
      exact hk m a w ⟨hr, Step.refl hr.inv, Nat.le_refl _, fun e => ⟨e, fun _ _ => rfl⟩⟩
    · obtain ⟨s1, h1, h2⟩ := h.2 i hi
      unfold stepI at h1
      unfold wpOp
      split
      · rename_i ho
        simp only [ho, Option.some.injEq] at h1
        subst h1
        exact anyA_wp fuel _ st m a w h2 hr hb hB hk
      · rename_i o ho
        simp only [ho] at h1
        have := stepOp_ok hC hcall (B := B) h1 hr hb hB (Q := Q) (K := wpAny C.P .any ops Q fuel (listed.setIfInBounds i true)) (fun m' a' w' s =>
          anyA_wp fuel _ s1 m' a' w' h2 s.rel (Nat.le_trans hb s.len) (Nat.le_trans hB s.step.size) fun m2 a2 w2 s2 => hk m2 a2 w2 (s.trans s2))
        split
        · rename_i hw; rw [if_pos hw] at this; exact .inl this
        · rename_i hw; rw [if_neg hw] at this; exact this

theorem ops_wp : ∀ (l : List Oper) (st fin : St) (m : M) (a : Act) (w : World), evalOps C call base ops l st = some fin → StRel m st a w → base ≤ st.h.length → B ≤ w.heap.size →
    (∀ m' a' w', StStep base B m st w m' fin a' w' → Q .normal a' w') → wpList C.P ops Q l a w
  | [], st, fin, m, a, w, h, hr, hb, hB, hk => by
    simp only [evalOps, Option.some.injEq] at h
    subst h
    exact hk m a w ⟨hr, Step.refl hr.inv, Nat.le_refl _, fun e => ⟨e, fun _ _ => rfl⟩⟩
  | o :: l, st, fin, m, a, w, h, hr, hb, hB, hk => by
    simp only [evalOps] at h
    split at h
    · rename_i s1 hs
      refine wpList_step fun K hK => ?_
      exact stepOp_ok hC hcall (B := B) hs hr hb hB (fun m' a' w' s => hK _ _ (ops_wp l s1 fin m' a' w' h s.rel (Nat.le_trans hb s.len) (Nat.le_trans hB s.step.size) fun m2 a2 w2 s2 => hk m2 a2 w2 (s.trans s2)))
    · cases h

end

/-- Every region of a code whose order is drawn keeps to the check. -/
def drawsOk (C : Cfg) : Code → Bool
  | .region _ ops draw => !draw || lexA C ops ops.size 0 (Array.replicate ops.size false)
  | .seq a b => drawsOk C a && drawsOk C b
  | .cond _ a b => drawsOk C a && drawsOk C b
  | .block _ b => drawsOk C b
  | .loop b => drawsOk C b
  | .scope b => drawsOk C b
  | _ => true

/-- How the evaluator's way out and the model's agree. -/
def ExRel : Ex → Exit → Prop
  | .normal, .normal => True
  | .ret, .ret => True
  | .exit i, .exit j => i = j
  | _, _ => False

theorem Code_wp_mono {P : Program} {c : Code} {Q Q' : Exit → Act → World → Prop} {a : Act} {w : World} (h : c.wp P Q a w) (hq : ∀ e a w, Q e a w → Q' e a w) : c.wp P Q' a w := wp_mono h hq

section
variable {C : Cfg} (hC : CfgOk C) (hm : C.P.follows .mixedOrders = true) {call : CallFn} (hcall : CallSpec C.P call) {base n : Nat}
include hC hm hcall

/-- What the code leaves behind. -/
def Post (C : Cfg) (base : Nat) (m : M) (st : St) (w : World) (x : Ex) (st' : St) : Exit → Act → World → Prop := fun e a' w' => ExRel x e ∧ ∃ m', StStep base w.heap.size m st w m' st' a' w'

theorem code_ok : ∀ (c : Code), drawsOk C c = true → ∀ (st st' : St) (x : Ex), evalC C call base n c st = some (x, st') → ∀ (m : M) (a : Act) (w : World), StRel m st a w → base ≤ st.h.length →
    c.wp C.P (Post C base m st w x st') a w
  | .skip, _, st, st', x, he, m, a, w, hr, hb => by
    simp only [evalC, Option.some.injEq, Prod.mk.injEq] at he
    obtain ⟨rfl, rfl⟩ := he
    exact wp_skip ⟨trivial, m, hr, Step.refl hr.inv, Nat.le_refl _, fun e => ⟨e, fun _ _ => rfl⟩⟩
  | .label l, _, st, st', x, he, m, a, w, hr, hb => by
    simp only [evalC, Option.some.injEq, Prod.mk.injEq] at he
    obtain ⟨rfl, rfl⟩ := he
    exact wp_label ⟨trivial, m, hr, Step.refl hr.inv, Nat.le_refl _, fun e => ⟨e, fun _ _ => rfl⟩⟩
  | .region id ops draw, hd, st, st', x, he, m, a, w, hr, hb => by
    simp only [evalC] at he
    obtain ⟨fin, h1, he⟩ := Option.map_eq_some_iff.1 he
    simp only [Prod.mk.injEq] at he
    obtain ⟨rfl, rfl⟩ := he
    cases draw with
    | false => exact wp_region_list (ops_wp hC hcall ops.toList st fin m a w h1 hr hb (Nat.le_refl _) fun m' a' w' s => ⟨trivial, m', s⟩)
    | true =>
      simp only [drawsOk, Bool.not_true, Bool.false_or] at hd
      refine wp_region_any hm ?_
      have hA := anyA_lex (C := C) (call := call) (base := base) (ops := ops) (fin := fin) ops.toList 0 (Array.replicate ops.size false) st (by simp) (by simpa using hd) h1
      have s0 := Step.same (B := w.heap.size) hr.inv (w' := { w with drawn := w.drawn + 1 }) rfl rfl rfl rfl
      have hr0 : StRel m st a { w with drawn := w.drawn + 1 } := ⟨s0.inv, hr.fr, hr.defers⟩
      have := anyA_wp hC hcall (B := w.heap.size) (Q := Post C base m st w .normal fin) ops.toList.length _ st m a { w with drawn := w.drawn + 1 } hA hr0 hb (Nat.le_refl _) (fun m' a' w' s =>
        ⟨trivial, m', s.rel, s0.trans s.step, s.len, s.clean⟩)
      simpa using this
  | .seq p q, hd, st, st', x, he, m, a, w, hr, hb => by
    simp only [drawsOk, Bool.and_eq_true] at hd
    simp only [evalC] at he
    refine wp_seq ?_
    split at he
    · rename_i s1 h1
      refine Code_wp_mono (code_ok p hd.1 st s1 .normal h1 m a w hr hb) ?_
      rintro e a1 w1 ⟨hx, m1, s⟩
      cases e <;> simp only [ExRel] at hx
      refine Code_wp_mono (code_ok q hd.2 s1 st' x he m1 a1 w1 s.rel (Nat.le_trans hb s.len)) ?_
      rintro e a2 w2 ⟨hx2, m2, s2⟩
      exact ⟨hx2, m2, s.trans ⟨s2.rel, s2.step.mono s.step.size, s2.len, s2.clean⟩⟩
    · rename_i r hne
      refine Code_wp_mono (code_ok p hd.1 st st' x he m a w hr hb) ?_
      rintro e a1 w1 ⟨hx, m1, s⟩
      cases x with
      | normal => exact (hne _ he).elim
      | ret => cases e <;> simp only [ExRel] at hx; exact ⟨trivial, m1, s⟩
      | exit i => cases e <;> simp only [ExRel] at hx; exact ⟨hx, m1, s⟩
  | .cond c p q, hd, st, st', x, he, m, a, w, hr, hb => by
    simp only [drawsOk, Bool.and_eq_true] at hd
    simp only [evalC] at he
    split at he
    · rename_i hc
      exact wp_cond_true (hr.eval c _ hc).bool' (code_ok p hd.1 st st' x he m a w hr hb)
    · rename_i hc
      exact wp_cond_false (hr.eval c _ hc).bool' (code_ok q hd.2 st st' x he m a w hr hb)
    · cases he
  | .block id p, hd, st, st', x, he, m, a, w, hr, hb => by
    simp only [drawsOk] at hd
    simp only [evalC] at he
    refine wp_block ?_
    split at he
    · rename_i i s1 h1
      refine Code_wp_mono (code_ok p hd st s1 (.exit i) h1 m a w hr hb) ?_
      rintro e a1 w1 ⟨hx, m1, s⟩
      cases e <;> simp only [ExRel] at hx
      subst hx
      simp only [Exit.inBlock]
      split at he
      · rename_i hid
        rw [if_pos hid]
        simp only [Option.some.injEq, Prod.mk.injEq] at he
        obtain ⟨rfl, rfl⟩ := he
        exact ⟨trivial, m1, s⟩
      · rename_i hid
        rw [if_neg hid]
        simp only [Option.some.injEq, Prod.mk.injEq] at he
        obtain ⟨rfl, rfl⟩ := he
        exact ⟨rfl, m1, s⟩
    · rename_i r hne
      refine Code_wp_mono (code_ok p hd st st' x he m a w hr hb) ?_
      rintro e a1 w1 ⟨hx, m1, s⟩
      cases x with
      | normal => cases e <;> simp only [ExRel] at hx; exact ⟨trivial, m1, s⟩
      | ret => cases e <;> simp only [ExRel] at hx; exact ⟨trivial, m1, s⟩
      | exit i => exact (hne _ _ he).elim
  | .loop p, hd, st, st', x, he, m, a, w, hr, hb => by
    simp only [drawsOk] at hd
    simp only [evalC] at he
    have body := code_ok p hd
    refine wp_loop_rounds n ?_
    have key : ∀ (k : Nat) (s1 : St) (m1 : M) (a1 : Act) (w1 : World), iter (fun s => evalC C call base n p s) k s1 = some (x, st') → StStep base w.heap.size m st w m1 s1 a1 w1 →
        Code.rounds C.P p (Post C base m st w x st') k a1 w1 := by
      intro k
      induction k with
      | zero => intro s1 m1 a1 w1 h1 _; simp [iter] at h1
      | succ k ih =>
        intro s1 m1 a1 w1 h1 hs
        rw [rounds_succ]
        simp only [iter] at h1
        split at h1
        · rename_i s2 h2
          refine Code_wp_mono (body s1 s2 .normal h2 m1 a1 w1 hs.rel (Nat.le_trans hb hs.len)) ?_
          rintro e a2 w2 ⟨hx, m2, s⟩
          cases e <;> simp only [ExRel] at hx
          exact ih s2 m2 a2 w2 h1 (hs.trans ⟨s.rel, s.step.mono hs.step.size, s.len, s.clean⟩)
        · rename_i r hne
          refine Code_wp_mono (body s1 st' x h1 m1 a1 w1 hs.rel (Nat.le_trans hb hs.len)) ?_
          rintro e a2 w2 ⟨hx, m2, s⟩
          have hs2 := hs.trans ⟨s.rel, s.step.mono hs.step.size, s.len, s.clean⟩
          cases x with
          | normal => exact (hne _ h1).elim
          | ret => cases e <;> simp only [ExRel] at hx; exact ⟨trivial, m2, hs2⟩
          | exit i => cases e <;> simp only [ExRel] at hx; exact ⟨hx, m2, hs2⟩
    exact key n st m a w he ⟨hr, Step.refl hr.inv, Nat.le_refl _, fun e => ⟨e, fun _ _ => rfl⟩⟩
  | .scope p, hd, st, st', x, he, m, a, w, hr, hb => by
    simp only [drawsOk] at hd
    simp only [evalC] at he
    refine wp_scope_straight ?_
    refine Code_wp_mono (code_ok p hd st st' x he m a w hr hb) ?_
    rintro e a1 w1 ⟨hx, m1, s⟩
    cases e <;> (try exact ⟨hx, m1, s⟩)
    cases x <;> simp only [ExRel] at hx
  | .exit id, _, st, st', x, he, m, a, w, hr, hb => by
    simp only [evalC, Option.some.injEq, Prod.mk.injEq] at he
    obtain ⟨rfl, rfl⟩ := he
    exact wp_exit ⟨rfl, m, hr, Step.refl hr.inv, Nat.le_refl _, fun e => ⟨e, fun _ _ => rfl⟩⟩
  | .ret, _, st, st', x, he, m, a, w, hr, hb => by
    simp only [evalC, Option.some.injEq, Prod.mk.injEq] at he
    obtain ⟨rfl, rfl⟩ := he
    exact wp_ret ⟨trivial, m, hr, Step.refl hr.inv, Nat.le_refl _, fun e => ⟨e, fun _ _ => rfl⟩⟩
  | .rangeFunc _ _ _ _, _, st, st', x, he, m, a, w, hr, hb => by simp [evalC] at he
  | .goto _, _, st, st', x, he, m, a, w, hr, hb => by simp [evalC] at he
  | .refuse _, _, st, st', x, he, m, a, w, hr, hb => by simp [evalC] at he

end

/-- The code of every function that is walked keeps to the check. -/
def BodiesOk (C : Cfg) : Prop := ∀ f fn c, C.mode f ≠ .no → C.P.funcs[f]? = some fn → fn.body = some c → drawsOk (C.on f) c = true

/-- One result. -/
def resultOne (tmps : Array Value) : ResultVar → Sem Value
  | .tmp t => pure (tmps.getD t undef)
  | .cell a t => do loadVar t (← asAddr (tmps.getD a undef))
theorem results_eq (fn : Func) (tmps : Array Value) : results fn tmps = (do
    let vs ← fn.results.mapM (resultOne tmps)
    pure (if h : vs.size = 1 then vs[0] else .tuple vs)) := by
  unfold results
  have : (fun x : ResultVar => (match x with | .tmp t => (pure (tmps.getD t undef) : Sem Value) | .cell a t => do loadVar t (← asAddr (tmps.getD a undef)))) = resultOne tmps := by
    funext x; cases x <;> rfl
  rw [← this]
  rfl

theorem resultA_ok {P : Program} {m : M} {st : St} {a : Act} {w : World} (hr : StRel m st a w) {r : ResultVar} {v : AV} (he : resultA P st.fr st.h r = some v) :
    ∃ u, (resultOne a.tmps r).run P w = .ok u w ∧ VRel m v u := by
  cases r with
  | tmp t =>
    simp only [resultA] at he
    exact ⟨_, rfl, hr.eval (.tmp t) v he⟩
  | cell ad t =>
    simp only [resultA] at he
    split at he
    · rename_i x hx
      have h1 := hr.eval (.tmp ad) x hx
      simp only [Act.eval] at h1
      obtain ⟨u, k1, k2⟩ := loadA_ok (P := P) hr.inv h1 he
      refine ⟨u, ?_, k2⟩
      simp only [resultOne]
      generalize a.tmps.getD ad undef = q at k1 ⊢
      cases q <;> simp [Instr.loadAt, Instr.sureAddr] at k1
      rename_i p
      cases p with
      | none => simp at k1
      | some p => simpa [asAddr] using k1
    · cases he

theorem results_mapM {P : Program} {m : M} {st : St} {a : Act} {w : World} (hr : StRel m st a w) : ∀ (rs : List ResultVar) (vs : List AV), rs.mapM (resultA P st.fr st.h) = some vs →
    ∃ us, (rs.mapM (resultOne a.tmps)).run P w = .ok us w ∧ VRelL m vs us
  | [], vs, h => by simp at h; subst h; exact ⟨[], by simp, .nil⟩
  | r :: rs, vs, h => by
    rw [List.mapM_cons] at h
    cases hx : resultA P st.fr st.h r with
    | none => simp [hx] at h
    | some v =>
      cases hl : rs.mapM (resultA P st.fr st.h) with
      | none => simp [hx, hl] at h
      | some ys =>
        simp [hx, hl] at h
        subst h
        obtain ⟨u, k1, k2⟩ := resultA_ok hr hx
        obtain ⟨us, k3, k4⟩ := results_mapM hr rs ys hl
        refine ⟨u :: us, ?_, .cons k2 k4⟩
        rw [List.mapM_cons]
        simp only [Sem.run_bind, k1, Result.andThen_ok, Sem.run_pure, k3]

theorem resultsA_ok {P : Program} {m : M} {st : St} {a : Act} {w : World} (hr : StRel m st a w) {fn : Func} {v : AV} (he : resultsA P fn.results.toList st.fr st.h = some v) :
    ∃ u, (results fn a.tmps).run P w = .ok u w ∧ VRel m v u := by
  unfold resultsA at he
  rw [results_eq, Array.mapM_eq_mapM_toList]
  cases hm : fn.results.toList.mapM (resultA P st.fr st.h) with
  | none => simp [hm] at he
  | some vs =>
    obtain ⟨us, k1, k2⟩ := results_mapM hr _ vs hm
    simp only [Sem.run_bind, Sem.run_map, k1, Result.andThen_ok, Sem.run_pure]
    have hl := k2.length
    rw [hm] at he
    split at he
    · rename_i x heq
      simp only [Option.some.injEq] at heq he
      subst heq he
      simp only [VRelL] at k2
      obtain ⟨u, us', rfl, k3, rfl⟩ := k2
      exact ⟨u, by simp, k3⟩
    · rename_i vs' hne heq
      simp only [Option.some.injEq] at heq he
      subst heq he
      have h1 : us.length ≠ 1 := by
        rw [hl]
        intro e
        match vs, e with
        | [y], _ => exact hne y rfl
      refine ⟨.tuple us.toArray, by simp [h1], ?_⟩
      simp only [VRel]
      exact ⟨_, rfl, k2⟩
    · rename_i heq; cases heq

mutual
theorem VRel.cleanOf {m : M} {n : Nat} (h1 : ∀ i c, m.mu i = some c → i < n) (h2 : ∀ i k r, m.rho i k = some r → i < n) : ∀ (x : AV) (v : Value), VRel m x v → x.clean n = true
  | .bool _, _, _ => rfl
  | .int _ _, _, _ => rfl
  | .str _, _, _ => rfl
  | .nilp, _, _ => rfl
  | .ptr b _, _, e => by simp only [VRel] at e; obtain ⟨c, e, _⟩ := e; simpa only [AV.clean, decide_eq_true_eq] using h1 _ _ e
  | .rptr x, _, e => by
    simp only [VRel] at e
    obtain ⟨a, cv, _, _, h3, _⟩ := e
    simpa only [AV.clean] using VRel.cleanOf h1 h2 x cv h3
  | .nils, _, _ => rfl
  | .list xs _ _ tok, _, e => by
    simp only [VRel] at e
    simp only [AV.clean, Bool.and_eq_true]
    rcases e with ⟨rfl, _, _, rfl, _⟩ | ⟨a, cap', cvs, s, _, _, _, h4, _, _, _, h8⟩
    · exact ⟨by simp only [cleanL], rfl⟩
    · refine ⟨VRelL.cleanOf h1 h2 xs cvs h4, ?_⟩
      cases tok with
      | none => rfl
      | some τ => simpa only [decide_eq_true_eq] using h2 _ _ _ (h8 τ rfl)
  | .raw _, _, _ => rfl
  | .slice b _ _ _ _ _, _, e => by simp only [VRel] at e; obtain ⟨c, _, e, _⟩ := e; simpa only [AV.clean, decide_eq_true_eq] using h1 _ _ e
  | .func _ x y, _, e => by
    simp only [VRel] at e
    obtain ⟨xs, ys, _, h3, h4⟩ := e
    simp only [AV.clean, Bool.and_eq_true]
    exact ⟨VRelL.cleanOf h1 h2 x _ h3, VRelL.cleanOf h1 h2 y _ h4⟩
  | .nilFunc, _, _ => rfl
  | .iface _ x, _, e => by simp only [VRel] at e; obtain ⟨cv, _, h3⟩ := e; simpa only [AV.clean] using VRel.cleanOf h1 h2 x cv h3
  | .nilIface, _, _ => rfl
  | .agg cs, _, e => by simp only [VRel] at e; obtain ⟨cvs, _, h3⟩ := e; simpa only [AV.clean] using VRelL.cleanOf h1 h2 cs _ h3
  | .tuple cs, _, e => by simp only [VRel] at e; obtain ⟨cvs, _, h3⟩ := e; simpa only [AV.clean] using VRelL.cleanOf h1 h2 cs _ h3
theorem VRelL.cleanOf {m : M} {n : Nat} (h1 : ∀ i c, m.mu i = some c → i < n) (h2 : ∀ i k r, m.rho i k = some r → i < n) : ∀ (x : List AV) (v : List Value), VRelL m x v → cleanL n x = true
  | [], _, _ => by simp only [cleanL]
  | x :: xs, _, e => by
    simp only [VRelL] at e
    obtain ⟨v, vs, _, h3, h4⟩ := e
    simp only [cleanL, Bool.and_eq_true]
    exact ⟨VRel.cleanOf h1 h2 x v h3, VRelL.cleanOf h1 h2 xs vs h4⟩
end

/-- Only what was there at the call is spoken of any more. -/
theorem Step.upto {m m' : M} {h h' : Heap} {w w' : World} (hi : Inv m h w) (s : Step w.heap.size m h w m' h' w') (hk : ∀ i, i < h.length → h'[i]? = h[i]?) (hl : h.length ≤ h'.length) :
    Step w.heap.size m h w (m'.upto h.length) h w' := by
  have hget : ∀ (i : Nat) (o : AO), h[i]? = some o → i < h.length ∧ h'[i]? = some o := fun i o e => by
    have := (List.getElem?_eq_some_iff.1 e).1
    exact ⟨this, by rw [hk i this]; exact e⟩
  have hle : m.le (m'.upto h.length) := ⟨s.le.F, fun i c e => by have := hi.mu i c e; simp only [M.upto, if_pos this]; exact s.le.mu _ _ e,
    fun i n r e => by have := hi.rho i n r e; simp only [M.upto, if_pos this]; exact s.le.rho _ _ _ e⟩
  refine ⟨hle, ⟨s.inv.f, s.inv.fone, ?_, ?_, ?_, ?_, ?_, ?_, ?_⟩, s.size, s.os, s.tape, s.output, s.frame, ?_, s.fnew⟩
  · intro i cs e
    obtain ⟨hil, e'⟩ := hget i _ e
    obtain ⟨c, cvs, t, h1, h2, h3, h4, h5⟩ := s.inv.var i cs e'
    obtain ⟨c0, cvs0, t0, g1, g2, g3, g4, g5⟩ := hi.var i cs e
    have hc : c = c0 := by have := s.le.mu _ _ g1; rw [h1] at this; cases this; rfl
    subst hc
    exact ⟨c, cvs, t, by simp only [M.upto, if_pos hil]; exact h1, h2, VRelL.upto _ _ (VRelL.cleanOf hi.mu hi.rho _ _ g3) h3, h4, h5.1, by simp only [M.upto, if_pos hil]; exact h5.2⟩
  · intro i j cs ds c e e' h1 h2
    obtain ⟨hil, e⟩ := hget i _ e
    obtain ⟨hjl, e'⟩ := hget j _ e'
    simp only [M.upto, if_pos hil, if_pos hjl] at h1 h2
    exact s.inv.inj i j cs ds c e e' h1 h2
  · intro i n sz e
    obtain ⟨hil, e'⟩ := hget i _ e
    obtain ⟨a, cap, h1, h2⟩ := s.inv.own i n sz e'
    refine ⟨a, cap, by simp only [M.upto, if_pos hil]; exact h1, h2.spot, h2.le, h2.cell, h2.lt, fun k cs ek => ?_⟩
    obtain ⟨hkl, ek'⟩ := hget k _ ek
    simp only [M.upto, if_pos hkl]
    exact h2.var k cs ek'
  · intro i j n k sz tz a b ca cb e e' h1 h2 hne
    obtain ⟨hil, e⟩ := hget i _ e
    obtain ⟨hjl, e'⟩ := hget j _ e'
    simp only [M.upto, if_pos hil, if_pos hjl] at h1 h2
    exact s.inv.apart i j n k sz tz a b ca cb e e' h1 h2 hne
  · intro i c e
    simp only [M.upto] at e
    split at e
    · assumption
    · cases e
  · intro i n r e
    simp only [M.upto] at e
    split at e
    · assumption
    · cases e
  · intro i n k sz r e h1
    obtain ⟨hil, e'⟩ := hget i _ e
    simp only [M.upto, if_pos hil] at h1
    exact s.inv.cur i n k sz r e' h1
  · intro c hc
    refine s.touch c ?_
    rcases hc with ⟨i, cs, e, h1⟩ | ⟨i, n, sz, a, cap, e, h1, h2⟩
    · obtain ⟨hil, e'⟩ := hget i _ e
      simp only [M.upto, if_pos hil] at h1
      exact .inl ⟨i, cs, e', h1⟩
    · obtain ⟨hil, e'⟩ := hget i _ e
      simp only [M.upto, if_pos hil] at h1
      exact .inr ⟨i, n, sz, a, cap, e', h1, h2⟩

/-- **What the evaluator says of a function, the model does.** -/
theorem evalF_ok {C : Cfg} (hC : CfgOk C) (hB : BodiesOk C) (hm : C.P.follows .mixedOrders = true) : ∀ k, CallSpec C.P (evalF C k)
  | 0 => fun g vs h v h' d he => by simp [evalF] at he
  | k + 1 => fun g vs h v h' d he => by
    have ih := evalF_ok hC hB hm k
    have hC' : CfgOk (C.on g) := ⟨hC.prim, hC.hprim, hC.body⟩
    simp only [evalF] at he
    split at he
    · cases he
    rename_i hmode
    split at he
    · cases he
    rename_i fn hfn
    split at he
    · cases he
    rename_i c hc
    intro m w us hi hr
    have hlen : us.size = vs.length := by have := hr.length; simpa using this
    have hst : StRel m ⟨vs ++ List.replicate (fn.ntmps - vs.length) .undef, h, false⟩ { tmps := us ++ Array.replicate (fn.ntmps - us.size) undef, defers := [] } w := by
      refine ⟨hi, ?_, rfl⟩
      simp only [Array.toList_append, Array.toList_replicate, hlen]
      exact hr.append (VRelL.replicate VRel.undef _)
    split at he
    · cases he
    · rename_i x st hne hev
      have hcode := code_ok (C := C.on g) hC' hm ih (n := k) c (hB g fn c hmode hfn hc) _ _ x hev m _ w hst (Nat.le_refl _)
      split at he
      · rename_i q hq
        have fin : ∀ e a' w', Post (C.on g) h.length m ⟨vs ++ List.replicate (fn.ntmps - vs.length) .undef, h, false⟩ w x st e a' w' →
            bodyPost C.P fn (fun e w' => ∃ u, e = .returned u ∧ ∃ m', Step w.heap.size m h w m' h' w' ∧ VRel m' v u) e a' w' := by
          rintro e a' w' ⟨hx, m', s⟩
          obtain ⟨u, k1, k2⟩ := resultsA_ok (P := C.P) s.rel hq
          have hpost : ∃ m', Step w.heap.size m h w m' h' w' ∧ VRel m' v u := by
            split at he
            · rename_i hcl
              simp only [Option.some.injEq, Prod.mk.injEq] at he
              obtain ⟨rfl, rfl, rfl⟩ := he
              simp only [Bool.and_eq_true, Bool.not_eq_true'] at hcl
              have hkeep := (s.clean hcl.1).2
              exact ⟨_, Step.upto hi s.step hkeep s.len, VRel.upto _ _ hcl.2 k2⟩
            · simp only [Option.some.injEq, Prod.mk.injEq] at he
              obtain ⟨rfl, rfl, rfl⟩ := he
              exact ⟨m', s.step, k2⟩
          cases x with
          | normal => cases e <;> simp only [ExRel] at hx; exact ⟨s.rel.defers, u, k1, u, rfl, hpost⟩
          | ret => cases e <;> simp only [ExRel] at hx; exact ⟨s.rel.defers, u, k1, u, rfl, hpost⟩
          | exit i => exact (hne i rfl).elim
        refine ⟨calls_of_wp hfn hc (Code_wp_mono hcode fin), ?_⟩
        obtain ⟨e0, a0, w0, ⟨hx0, m0, s0⟩, _⟩ := hcode default [] []
        split at he
        · simp only [Option.some.injEq, Prod.mk.injEq] at he
          obtain ⟨rfl, rfl, rfl⟩ := he
          exact ⟨Nat.le_refl _, fun _ _ _ => rfl⟩
        · simp only [Option.some.injEq, Prod.mk.injEq] at he
          obtain ⟨rfl, rfl, rfl⟩ := he
          exact ⟨s0.len, fun e => (s0.clean e).2⟩
      · cases he
    · cases he

end Go.Proofs.Ytpfdfilkhaoibaa.Ev

/-
  From the readings of a row's arguments to abstract values, and from the evaluator's answer to what a row asks.
-/
namespace Go.Proofs.Ytpfdfilkhaoibaa.Ev
open Go Go.RowKit Go.ChangeShapes Go.WideShapes
set_option linter.unusedVariables false
set_option linter.unusedSimpArgs false

/-- Memory as it stands: no cell will change that the call does not own. -/
def mOf (w : World) : M := ⟨fun a => match w.cell? a with | some v => if v.oneCell' then some v else none | none => none, fun _ => none, fun _ _ => none⟩

theorem mOf_cell {w : World} {a : Addr} {v : Value} (h : w.cell? a = some v) (h1 : v.oneCell' = true) : (mOf w).F a = some v := by
  simp [mOf, h, h1]

theorem inv_mOf (w : World) : Inv (mOf w) [] w where
  f := fun a v h => by
    simp only [mOf] at h
    split at h
    · rename_i x hx
      split at h
      · simp only [Option.some.injEq] at h; subst h; exact hx
      · cases h
    · cases h
  fone := fun a v h => by
    simp only [mOf] at h
    split at h
    · split at h
      · rename_i h1; simp only [Option.some.injEq] at h; subst h; exact h1
      · cases h
    · cases h
  var := fun i cs e => by simp at e
  inj := fun i j cs ds c e => by simp at e
  own := fun i n sz e => by simp at e
  apart := fun i j n k sz tz a b ca cb e => by simp at e
  mu := fun i c e => by simp [mOf] at e
  rho := fun i n r e => by simp [mOf] at e
  cur := fun i n k sz r e => by simp at e

def hasParts (h : TypeId → List AV → Prop) : List TypeId → List AV → Prop
  | [], xs => xs = []
  | t :: ts, xs => ∃ a b, xs = a ++ b ∧ h t a ∧ hasParts h ts b

def isOf (P : Program) (h : TypeId → List AV → Prop) (t : TypeId) (x : AV) : Prop :=
  (tyAgg P t = true ∧ ∃ cs, x = .agg cs ∧ h t cs) ∨ (tyAgg P t = false ∧ h t [x])

/-- The cells of a value of a type. -/
def has (P : Program) : Nat → TypeId → List AV → Prop
  | 0, _, _ => False
  | n + 1, t, xs =>
    match P.underlying t with
    | some .bool => ∃ b, xs = [.bool b]
    | some (.int k) => ∃ i, xs = [.int k i] ∧ (Lit.int k i).wf = true
    | some .string => ∃ s, xs = [.str s] ∧ s.length ≤ maxLen
    | some (.pointer e) => xs = [.nilp] ∨ ∃ y, xs = [.rptr y] ∧ isOf P (has P n) e y
    | some (.slice e) => ∃ ys, xs = [AV.L ys] ∧ ys.length ≤ maxLen ∧ ∀ y ∈ ys, isOf P (has P n) e y
    | some (.struct fs) => hasParts (has P n) (fs.toList.map (·.type)) xs
    | _ => False

def laidFrom (P : Program) : Nat → List Field → Option Nat
  | o, [] => some o
  | o, f :: fs => if f.offset = o then laidFrom P (o + P.cellsOf f.type) fs else none

def tyOk (P : Program) (ts : List TypeId) (t : TypeId) : Bool :=
  match P.underlying t with
  | some .bool | some (.int _) | some .string => true
  | some (.pointer e) => ts.contains e && decide (0 < P.cellsOf e)
  | some (.slice e) => ts.contains e && decide (0 < P.cellsOf e)
  | some (.struct fs) => (laidFrom P 0 fs.toList == some (P.cellsOf t)) && fs.toList.all (fun f => ts.contains f.type)
  | _ => false
def tysOk (P : Program) (ts : List TypeId) : Bool := ts.all (tyOk P ts)

theorem tysOk_at {P : Program} {ts : List TypeId} (h : tysOk P ts = true) {t : TypeId} (ht : t ∈ ts) : tyOk P ts t = true := List.all_eq_true.1 h t ht

/-- Cells of a value, put together. -/
theorem boxed {P : Program} {ts : List TypeId} (hts : tysOk P ts = true) {m : M} {n : Nat} {t : TypeId} (ht : t ∈ ts) {xs : List AV} {cs : List Value} (hh : has P n t xs) (hr : VRelL m xs cs) (h1 : ∀ v ∈ cs, v.oneCell' = true) :
    ∃ y cv, isOf P (has P n) t y ∧ VRel m y cv ∧ VCells cv = cs := by
  cases hagg : tyAgg P t with
  | true =>
    refine ⟨.agg xs, .agg cs.toArray, .inl ⟨hagg, xs, rfl, hh⟩, ?_, ?_⟩
    · simp only [VRel]; exact ⟨cs.toArray, rfl, hr⟩
    · simp [VCells, Value.cells]
  | false =>
    have hone : ∃ x, xs = [x] := by
      cases n with
      | zero => exact hh.elim
      | succ n =>
        simp only [has] at hh
        split at hh
        · obtain ⟨b, rfl⟩ := hh; exact ⟨_, rfl⟩
        · obtain ⟨b, rfl, _⟩ := hh; exact ⟨_, rfl⟩
        · obtain ⟨b, rfl, _⟩ := hh; exact ⟨_, rfl⟩
        · rcases hh with rfl | ⟨b, rfl, _⟩ <;> exact ⟨_, rfl⟩
        · obtain ⟨b, rfl, _⟩ := hh; exact ⟨_, rfl⟩
        · rename_i hu
          simp [tyAgg, hu] at hagg
        · exact hh.elim
    obtain ⟨x, rfl⟩ := hone
    simp only [VRelL] at hr
    obtain ⟨v, vs, rfl, hv, rfl⟩ := hr
    refine ⟨x, v, .inr ⟨hagg, hh⟩, hv, ?_⟩
    have := h1 v (by simp)
    cases v <;> first | rfl | (simp [Value.oneCell'] at this)

theorem cellsF_read {w : World} {base : Nat} {a : Addr} {n : Nat} {cs : List Value} (h : w.cells? base a n = some cs) (h1 : ∀ v ∈ cs, v.oneCell' = true) (h0 : 0 < n) : a.spot = none ∧ CellsF (mOf w).F a cs := by
  obtain ⟨_, hl, hc⟩ := World.cells?_some h
  have hs : a.spot = none := by
    have h2 := hc 0 h0
    rw [List.getElem?_eq_getElem (by omega)] at h2
    simp only [Addr.add, if_pos] at h2
    unfold World.cell? at h2
    split at h2
    · split at h2
      · cases h2
      · rename_i hn; cases hsp : a.spot <;> simp_all
    · cases h2
  refine ⟨hs, fun i v hv => ?_⟩
  have hi := (List.getElem?_eq_some_iff.1 hv).1
  have := hc i (by omega)
  rw [hv, Addr.add_none a hs] at this
  exact mOf_cell this (h1 v (List.mem_of_getElem? hv))

theorem CellsF.snoc {F : Addr → Option Value} {a : Addr} {l r : List Value} (h : CellsF F a l) (k : CellsF F ⟨a.block, a.off + l.length, none⟩ r) : CellsF F a (l ++ r) := by
  intro i v hv
  by_cases hi : i < l.length
  · rw [List.getElem?_append_left hi] at hv; exact h i v hv
  · rw [List.getElem?_append_right (by omega)] at hv
    have := k _ v hv
    simp only at this
    rwa [show a.off + l.length + (i - l.length) = a.off + i by omega] at this

/-- A reading gives abstract cells. -/
theorem trod_has {H : Type} {enc : TypeId × Value → H} {P : Program} {w : World} {base : Nat} {hd : Bool} {ts : List TypeId} (hts : tysOk P ts = true) :
    ∀ (fuel : Nat) (t : TypeId) (cs : List Value) (x : DataW H × List MemPlace), t ∈ ts → DataW.trod enc P w base (fun _ => true) hd fuel t cs = some x →
      ∃ xs, VRelL (mOf w) xs cs ∧ has P fuel t xs ∧ ∀ v ∈ cs, v.oneCell' = true
  | 0, t, cs, x, _, h => by simp [DataW.trod] at h
  | fuel + 1, t, cs, x, ht, h => by
    have hok := tysOk_at hts ht
    unfold tyOk at hok
    split at hok
    · rename_i hu
      obtain ⟨b, rfl, rfl⟩ := DataW.trod_bool hu h
      exact ⟨[.bool b], .cons (by simp only [VRel]) .nil, by simp only [has, hu]; exact ⟨b, rfl⟩, by simp [Value.oneCell']⟩
    · rename_i k hu
      obtain ⟨n, rfl, rfl, hw⟩ := DataW.trod_int hu h
      exact ⟨[.int k n], .cons (by simp only [VRel]) .nil, by simp only [has, hu]; exact ⟨n, rfl, hw⟩, by simp [Value.oneCell']⟩
    · rename_i hu
      obtain ⟨s, rfl, rfl, hs⟩ := DataW.trod_string hu h
      exact ⟨[.str s.data.toList], .cons (by simp only [VRel]; exact ⟨s, rfl, rfl⟩) .nil, by simp only [has, hu]; exact ⟨_, rfl, by simpa using hs⟩, by simp [Value.oneCell']⟩
    · rename_i e hu
      simp only [Bool.and_eq_true, List.contains_iff_mem, decide_eq_true_eq] at hok
      rcases DataW.trod_pointer hu h with ⟨rfl, rfl⟩ | ⟨a, cs', y, n, hf, rfl, rfl, hc, hy⟩
      · exact ⟨[.nilp], .cons (by simp only [VRel]) .nil, by simp [has, hu], by simp [Value.oneCell']⟩
      · obtain rfl : fuel = n := by omega
        obtain ⟨ys, k1, k2, k3⟩ := trod_has hts fuel e cs' y hok.1 hy
        obtain ⟨y', cv, q1, q2, q3⟩ := boxed hts hok.1 k2 k1 k3
        obtain ⟨hs, hF⟩ := cellsF_read hc k3 hok.2
        refine ⟨[.rptr y'], .cons ?_ .nil, by simp only [has, hu]; exact .inr ⟨y', rfl, q1⟩, by simp [Value.oneCell']⟩
        simp only [VRel]
        exact ⟨a, cv, rfl, hs, q2, by rw [q3]; exact hF⟩
    · rename_i e hu
      simp only [Bool.and_eq_true, List.contains_iff_mem, decide_eq_true_eq] at hok
      rcases DataW.trod_slice hu h with ⟨rfl, rfl⟩ | ⟨a, len, cap, elems, rest, n, hf, rfl, rfl, hb, hl, hm, hlen, hel, hsp, _⟩
      · refine ⟨[AV.L []], .cons ?_ .nil, by simp only [has, hu]; exact ⟨[], rfl, by simp, by simp⟩, by simp [Value.oneCell']⟩
        simp only [VRel]
        exact .inl ⟨by simp, by simp, by simp, by simp, by simp⟩
      · obtain rfl : fuel = n := by omega
        have hcap : ∀ i, i < cap → ∃ cs' z, w.cells? base (a.add (i * P.cellsOf e)) (P.cellsOf e) = some cs' ∧ DataW.trod enc P w base (fun _ => true) hd fuel e cs' = some z := by
          intro i hi
          by_cases hil : i < len
          · have := hel i hil
            rw [List.getElem?_eq_getElem (by omega)] at this
            obtain ⟨cs', h1, h2⟩ := Option.bind_eq_some_iff.1 this
            exact ⟨cs', _, h1, h2⟩
          · obtain ⟨hr, hrest⟩ := hsp rfl
            have := hrest (i - len) (by omega)
            rw [show len + (i - len) = i by omega, List.getElem?_eq_getElem (by omega)] at this
            obtain ⟨cs', h1, h2⟩ := Option.bind_eq_some_iff.1 this
            exact ⟨cs', _, h1, h2⟩
        have hspot : cap ≠ 0 → a.spot = none := fun h0 => by
          obtain ⟨cs', z, h1, h2⟩ := hcap 0 (by omega)
          obtain ⟨ys, k1, k2, k3⟩ := trod_has hts fuel e cs' z hok.1 h2
          rw [Nat.zero_mul] at h1
          exact (cellsF_read h1 k3 hok.2).1
        obtain ⟨f, hf⟩ := Deep.choose_lt (α := AV × Value) (n := len) (p := fun i p => isOf P (has P fuel) e p.1 ∧ VRel (mOf w) p.1 p.2 ∧ (VCells p.2).length = P.cellsOf e ∧ CellsF (mOf w).F ⟨a.block, a.off + i * P.cellsOf e, none⟩ (VCells p.2)) (fun i hi => by
          obtain ⟨cs', z, h1, h2⟩ := hcap i (by omega)
          obtain ⟨ys, k1, k2, k3⟩ := trod_has hts fuel e cs' z hok.1 h2
          obtain ⟨y', cv, q1, q2, q3⟩ := boxed hts hok.1 k2 k1 k3
          obtain ⟨_, hF⟩ := cellsF_read h1 k3 hok.2
          rw [Addr.add_none a (hspot (by omega))] at hF
          exact ⟨(y', cv), q1, q2, by rw [q3]; exact (World.cells?_some h1).2.1, by rw [q3]; exact hF⟩)
        refine ⟨[AV.L ((List.range len).map fun i => (f i).1)], .cons ?_ .nil, ?_, by simp [Value.oneCell']⟩
        · simp only [VRel]
          refine .inr ⟨a, cap, (List.range len).map fun i => (f i).2, P.cellsOf e, by simp, hspot, by simpa using hl, ?_, ?_, ?_, by simp, by simp⟩
          · apply VRelL.of_get (by simp)
            intro i x v hx hv
            have hi : i < len := by have := (List.getElem?_eq_some_iff.1 hx).1; simpa using this
            simp only [List.getElem?_map, List.getElem?_range hi, Option.map_some, Option.some.injEq] at hx hv
            subst hx; subst hv
            exact (hf i hi).2.1
          · intro cv hcv
            simp only [List.mem_map, List.mem_range] at hcv
            obtain ⟨i, hi, rfl⟩ := hcv
            exact (hf i hi).2.2.1
          · have key : ∀ k, k ≤ len → (((List.range k).map fun i => (f i).2).flatMap VCells).length = k * P.cellsOf e ∧ CellsF (mOf w).F a (((List.range k).map fun i => (f i).2).flatMap VCells) := by
              intro k
              induction k with
              | zero => intro _; exact ⟨by simp, by intro i v hv; simp at hv⟩
              | succ k ih =>
                intro hk
                obtain ⟨i1, i2⟩ := ih (by omega)
                have e1 := (hf k (by omega)).2.2.1
                have e2 := (hf k (by omega)).2.2.2
                rw [List.range_succ, List.map_append, List.flatMap_append]
                simp only [List.map_cons, List.map_nil, List.flatMap_cons, List.flatMap_nil, List.append_nil]
                exact ⟨by rw [List.length_append, i1, e1, Nat.succ_mul], i2.snoc (by rw [i1]; exact e2)⟩
            exact (key len (Nat.le_refl _)).2
        · simp only [has, hu]
          refine ⟨_, rfl, by simp; omega, fun y hy => ?_⟩
          simp only [List.mem_map, List.mem_range] at hy
          obtain ⟨i, hi, rfl⟩ := hy
          exact (hf i hi).1
    · rename_i fs hu
      simp only [Bool.and_eq_true, beq_iff_eq] at hok
      obtain ⟨hlaid, hall⟩ := hok
      obtain ⟨zs, n, hf, rfl, hcl, hzl, hz⟩ := DataW.trod_struct hu h
      obtain rfl : fuel = n := by omega
      have hz' : ∀ f ∈ fs.toList, ∃ z, DataW.trod enc P w base (fun _ => true) hd fuel f.type ((cs.drop f.offset).take (P.cellsOf f.type)) = some z := by
        intro f hf
        obtain ⟨i, hi⟩ := List.mem_iff_getElem?.1 hf
        have hi' : fs[i]? = some f := by simpa using hi
        have := hz i f hi'
        have hil : i < zs.length := by rw [hzl]; have := (List.getElem?_eq_some_iff.1 hi).1; simpa using this
        rw [List.getElem?_eq_getElem hil] at this
        exact ⟨_, this⟩
      have hmem : ∀ f ∈ fs.toList, f.type ∈ ts := fun f hf => by have := List.all_eq_true.1 hall f hf; simpa using this
      have key : ∀ (l : List Field) (o : Nat), laidFrom P o l = some (P.cellsOf t) → (∀ f ∈ l, f ∈ fs.toList) →
          ∃ xs, VRelL (mOf w) xs (cs.drop o) ∧ hasParts (has P fuel) (l.map (·.type)) xs ∧ ∀ v ∈ cs.drop o, v.oneCell' = true := by
        intro l
        induction l with
        | nil =>
          intro o ho _
          simp only [laidFrom, Option.some.injEq] at ho
          have : cs.drop o = [] := by apply List.drop_eq_nil_of_le; omega
          rw [this]
          exact ⟨[], .nil, by simp [hasParts], by simp⟩
        | cons f l ih =>
          intro o ho hl
          simp only [laidFrom] at ho
          split at ho
          · rename_i hfo
            obtain ⟨xs, k1, k2, k3⟩ := ih _ ho (fun g hg => hl g (List.mem_cons_of_mem _ hg))
            obtain ⟨z, hz⟩ := hz' f (hl f (by simp))
            obtain ⟨ys, j1, j2, j3⟩ := trod_has hts fuel f.type _ z (hmem f (hl f (by simp))) hz
            rw [hfo] at j1 j3
            have hsplit : cs.drop o = (cs.drop o).take (P.cellsOf f.type) ++ cs.drop (o + P.cellsOf f.type) := by
              rw [← List.drop_drop, List.take_append_drop]
            refine ⟨ys ++ xs, ?_, ?_, ?_⟩
            · rw [hsplit]; exact j1.append k1
            · simp only [List.map_cons, hasParts]; exact ⟨ys, xs, rfl, j2, k2⟩
            · intro v hv
              rw [hsplit, List.mem_append] at hv
              exact hv.elim (j3 v) (k3 v)
          · cases ho
      obtain ⟨xs, k1, k2, k3⟩ := key fs.toList 0 hlaid (fun f hf => hf)
      exact ⟨xs, by simpa using k1, by simp only [has, hu]; exact k2, by simpa using k3⟩
    · cases hok

/-- Values of the types of a row's parameters. -/
def hasAll (P : Program) : List TypeId → List AV → Prop
  | [], [] => True
  | t :: ts, x :: xs => (∃ n, isOf P (has P n) t x) ∧ hasAll P ts xs
  | _, _ => False

theorem value_box {P : Program} {ts : List TypeId} (hts : tysOk P ts = true) {m : M} {n : Nat} {t : TypeId} (ht : t ∈ ts) {w : World} {r : Reach} {b : Nat} {v : Value} (hok : Value.okWide P w r b t v) {xs : List AV}
    (hh : has P n t xs) (hr : VRelL m xs v.cells.toList) : ∃ y, isOf P (has P n) t y ∧ VRel m y v := by
  have hty := tysOk_at hts ht
  cases hagg : tyAgg P t with
  | true =>
    have : ∃ cs, v = .agg cs := by
      unfold Value.okWide at hok
      unfold tyOk at hty
      unfold tyAgg at hagg
      split at hty <;> first | (cases hty; done) | (rename_i hu; rw [hu] at hok hagg; first | (obtain ⟨cs, rfl, _⟩ := hok; exact ⟨cs, rfl⟩) | cases hagg)
    obtain ⟨cs, rfl⟩ := this
    exact ⟨.agg xs, .inl ⟨hagg, xs, rfl, hh⟩, by simp only [VRel]; exact ⟨cs, rfl, hr⟩⟩
  | false =>
    have hv : VCells v = [v] := by
      unfold Value.okWide at hok
      unfold tyOk at hty
      unfold tyAgg at hagg
      split at hty <;>
        first
        | (cases hty; done)
        | (rename_i hu; rw [hu] at hok hagg; first | (simp at hagg; done) | (cases v <;> first | rfl | (simp [Cell.okWide, Cell.ok, hu] at hok)))
    rw [show v.cells.toList = [v] from hv] at hr
    match xs, hr with
    | [x], hr =>
      simp only [VRelL] at hr
      obtain ⟨v', vs, e, hx, e'⟩ := hr
      subst e'
      simp only [List.cons.injEq, and_true] at e
      subst e
      exact ⟨x, .inr ⟨hagg, hh⟩, hx⟩
    | [], hr => simp [VRelL] at hr
    | _ :: _ :: _, hr =>
      simp only [VRelL] at hr
      obtain ⟨v', vs, e, hx, v'', vs', e', _⟩ := hr
      subst e'
      simp at e

theorem trodAll_has {H : Type} {enc : TypeId × Value → H} {P : Program} {w : World} {ts : List TypeId} (hts : tysOk P ts = true) {b : Nat} :
    ∀ (ps : List TypeId) (vs : List Value) (ds : List (DataW H)) (pl : List MemPlace), (∀ t ∈ ps, t ∈ ts) → DataW.TrodAll enc P w 0 (fun _ => true) true ps vs ds pl →
      (∀ (j : Nat) t v, ps[j]? = some t → vs[j]? = some v → Value.okWide P w .any b t v) → ∃ xs, VRelL (mOf w) xs vs ∧ hasAll P ps xs ∧ ds.length = ps.length
  | [], vs, ds, pl, _, h, _ => by
    obtain ⟨rfl, rfl, rfl⟩ := trodAll_nil h
    exact ⟨[], .nil, by simp [hasAll], rfl⟩
  | t :: ps, vs, ds, pl, hm, h, hv => by
    obtain ⟨v, vs1, d, ds1, p, q, rfl, rfl, rfl, ⟨n, h1⟩, h2⟩ := trodAll_cons h
    obtain ⟨xs, k1, k2, k3⟩ := trodAll_has hts ps vs1 ds1 q (fun t ht => hm t (List.mem_cons_of_mem _ ht)) h2 (fun j t u e1 e2 => hv (j + 1) t u (by simpa using e1) (by simpa using e2))
    obtain ⟨cs, j1, j2, j3⟩ := trod_has hts n t _ _ (hm t (by simp)) h1
    obtain ⟨y, q1, q2⟩ := value_box hts (hm t (by simp)) (hv 0 t v (by simp) (by simp)) j2 j1
    exact ⟨y :: xs, .cons q2 k1, by simp only [hasAll]; exact ⟨⟨n, q1⟩, k2⟩, by simp [k3]⟩

theorem below_of_step {w w' : World} {m' : M} {h' : Heap} (s : Step w.heap.size (mOf w) [] w m' h' w') : Below w.heap.size w w' where
  os := s.os
  tape := s.tape
  output := s.output
  size := s.size
  block := fun k hk => s.frame k hk (fun ht => by rcases ht with ⟨i, cs, e, _⟩ | ⟨i, n, sz, a, cap, e, _⟩ <;> simp at e)

theorem trodAll_stays {H : Type} {enc : TypeId × Value → H} {P : Program} {W W' : World} (hl : laidOutB P = true) (hb : Below W.heap.size W W') {sp : Nat → Bool} : ∀ (ps : List TypeId) (vs : List Value) (ds : List (DataW H)) (pl : List MemPlace),
    (ps.all fun t => P.readableRec t && decide (t < P.types.size)) = true → (∀ p ∈ pl, p.block < W.heap.size) → (∀ p ∈ pl, sp p.block = true) → DataW.TrodAll enc P W 0 (fun _ => true) true ps vs ds pl → DataW.TrodAll enc P W' 0 sp true ps vs ds pl
  | [], vs, ds, pl, _, _, _, h => by
    obtain ⟨rfl, rfl, rfl⟩ := trodAll_nil h
    rfl
  | t :: ps, vs, ds, pl, ha, hlt, hsp, h => by
    obtain ⟨v, vs1, d, ds1, p, q, rfl, rfl, rfl, h1, h2⟩ := trodAll_cons h
    simp only [List.all_cons, Bool.and_eq_true, decide_eq_true_eq] at ha
    exact ⟨p, q, WideElems.Trod_stays hl ha.1.1 ha.1.2 h1 (fun x hx => hb.same (hlt x (by simp [hx]))) (fun x hx => hsp x (by simp [hx])),
      trodAll_stays hl hb ps vs1 ds1 q ha.2 (fun x hx => hlt x (by simp [hx])) (fun x hx => hsp x (by simp [hx])) h2, rfl⟩

/-- **A law's contract**: the evaluator answers true at every argument. -/
theorem law_contract {C : Cfg} (hC : CfgOk C) (hB : BodiesOk C) (hmix : C.P.follows .mixedOrders = true) (hl : laidOutB C.P = true) {H : Type} {enc : TypeId × Value → H} {f : FuncId} {fn : Func} {s : ChangeSpec} {fresh handsOn : Bool} {tb : TypeId}
    (hvars : s.vars = []) (hres : fn.resultTypes = #[tb]) (htb : C.P.underlying tb = some .bool) {ts : List TypeId} (hts : tysOk C.P ts = true)
    (hps : (fn.params.toList.all fun t => ts.contains t && C.P.readableRec t && decide (t < C.P.types.size)) = true)
    (hs : ∀ ds : List (DataW H), ds.length = fn.params.toList.length → (s.fn H ds).results = [.lit (.bool true)] ∧ (s.fn H ds).args = ds ∧ (s.fn H ds).vars = [])
    (hev : ∀ xs, hasAll C.P fn.params.toList xs → ∃ k h d, evalF C k f xs [] = some (.bool true, h, d))
    (W : World) (base : Nat) (args : Array Value) (ds gs : List (DataW H)) (before : List MemPlace)
    (hval : ∀ (j : Nat) t v, fn.params[j]? = some t → args[j]? = some v → Value.okWide C.P W .any base t v)
    (hW : DataW.Whole enc C.P fn.params.toList s.vars false W args.toList ds gs before) :
    Calls C.P f args W fun e W' => ∃ v, e = .returned v ∧ s.post enc C.P fn false fresh handsOn false W args v W' := by
  have hW' := hW
  obtain ⟨p, q, hA, hV, rfl, hfz, hnd⟩ := hW'
  rw [hvars] at hV
  obtain ⟨rfl, rfl⟩ := trodVars_none hV
  have hall := List.all_eq_true.1 hps
  have hmem : ∀ t ∈ fn.params.toList, t ∈ ts := fun t ht => by have := hall t ht; simp only [Bool.and_eq_true, List.contains_iff_mem] at this; exact this.1.1
  have hrd : (fn.params.toList.all fun t => C.P.readableRec t && decide (t < C.P.types.size)) = true := by
    rw [List.all_eq_true]
    intro t ht
    have := hall t ht
    simp only [Bool.and_eq_true] at this
    simp only [Bool.and_eq_true]
    exact ⟨this.1.2, this.2⟩
  obtain ⟨xs, k1, k2, k3⟩ := trodAll_has hts fn.params.toList args.toList ds p hmem hA (fun j t v e1 e2 => hval j t v (by simpa using e1) (by simpa using e2))
  obtain ⟨k, h, d, he⟩ := hev xs k2
  obtain ⟨hc, _⟩ := evalF_ok hC hB hmix k f xs [] _ _ _ he (mOf W) W args (inv_mOf W) k1
  refine hc.mono ?_
  rintro e W' ⟨u, rfl, m', st, hu⟩
  simp only [VRel] at hu
  subst hu
  have hb := below_of_step st
  obtain ⟨s1, s2, s3⟩ := hs (ds ++ []) (by simpa using k3)
  rw [List.append_nil] at s1 s2 s3
  simp only [List.append_nil] at hW hfz
  refine ⟨_, rfl, ds, [], p, [], p, [], hW, ?_, ?_, ?_, hb.frame _, fun h => by cases h⟩
  · rw [List.append_nil, s1, hres]
    exact trodAll_mk1 (shut_bool htb true)
  · rw [List.append_nil, s2]
    exact trodAll_stays hl hb _ _ _ _ hrd (fun x hx => hW.lt x hx) (fun x hx => by simpa using hW.lt x hx) hA
  · rw [List.append_nil, s3, hvars]
    rfl

end Go.Proofs.Ytpfdfilkhaoibaa.Ev

/-
  More steps change no answer; the rules by which a function's run is followed, piece by piece.
-/
namespace Go.Proofs.Ytpfdfilkhaoibaa.Ev
open Go
set_option linter.unusedVariables false
set_option linter.unusedSimpArgs false

def CallLe (c c' : CallFn) : Prop := ∀ g vs h r, c g vs h = some r → c' g vs h = some r
theorem CallLe.refl (c : CallFn) : CallLe c c := fun _ _ _ _ h => h

theorem callF_mono {C : Cfg} {c c' : CallFn} (hc : CallLe c c') {g : FuncId} {vs : List AV} {h : Heap} {d : Bool} {r : AV × Heap × Bool} (he : callF C c g vs h d = some r) : callF C c' g vs h d = some r := by
  unfold callF at he ⊢
  split at he
  · exact he
  split at he
  · exact he
  · split at he
    · split at he
      · rename_i hcl
        rw [if_pos hcl]
        split at he
        · rename_i v h1 d1 hq
          rw [hc _ _ _ _ hq]
          exact he
        · cases he
      · cases he
    · split at he
      · rename_i v h1 d1 hq
        rw [hc _ _ _ _ hq]
        exact he
      · cases he
    · cases he

theorem evalOp_mono {C : Cfg} {c c' : CallFn} (hc : CallLe c c') {base : Nat} {o : Oper} {ρ : Operand → Option AV} {h : Heap} {d : Bool} {r : AV × Heap × Bool} (he : evalOp C c base o ρ h d = some r) : evalOp C c' base o ρ h d = some r := by
  obtain ⟨dst, op, type, pos, after, guard⟩ := o
  cases op with
  | call cl =>
    obtain ⟨callee, args, argTypes⟩ := cl
    simp only [evalOp] at he ⊢
    split at he
    · rename_i vs hvs
      cases callee with
      | builtin b => exact he
      | value f =>
        dsimp only at he ⊢
        cases hg : ρ f with
        | none => rw [hg] at he; cases he
        | some x =>
          rw [hg] at he
          split at he
          · rename_i g first captured hx
            cases hx
            exact callF_mono hc he
          · cases he
      | invoke x m =>
        dsimp only at he ⊢
        split at he
        case h_2 => cases he
        rename_i v hv
        split at he
        case h_2 => cases he
        rename_i f rv hm
        exact callF_mono hc he
    · cases he
  | _ => exact he

theorem stepOp_mono {C : Cfg} {c c' : CallFn} (hc : CallLe c c') {base : Nat} {ops : Array Oper} {o : Oper} {st st' : St} (he : stepOp C c base ops o st = some st') : stepOp C c' base ops o st = some st' := by
  unfold stepOp at he ⊢
  split at he
  · rename_i hw
    rw [if_pos hw]
    split at he
    · rename_i hq
      rw [evalOp_mono hc hq]
      exact he
    · cases he
  · rename_i hw
    rw [if_neg hw]
    exact he

theorem evalOps_mono {C : Cfg} {c c' : CallFn} (hc : CallLe c c') {base : Nat} {ops : Array Oper} : ∀ {l : List Oper} {st st' : St}, evalOps C c base ops l st = some st' → evalOps C c' base ops l st = some st'
  | [], _, _, he => he
  | o :: l, st, st', he => by
    simp only [evalOps] at he ⊢
    split at he
    · rename_i s hs
      rw [stepOp_mono hc hs]
      exact evalOps_mono hc he
    · cases he

theorem iter_mono {b b' : St → Option (Ex × St)} (hb : ∀ s r, b s = some r → b' s = some r) : ∀ {n n' : Nat} {st : St} {r : Ex × St}, n ≤ n' → iter b n st = some r → iter b' n' st = some r
  | 0, _, _, _, _, he => by simp [iter] at he
  | n + 1, 0, _, _, hn, _ => by omega
  | n + 1, n' + 1, st, r, hn, he => by
    simp only [iter] at he ⊢
    cases hq : b st with
    | none => rw [hq] at he; cases he
    | some p =>
      rw [hq] at he
      rw [hb _ _ hq]
      obtain ⟨x, s⟩ := p
      cases x with
      | normal => exact iter_mono hb (by omega) he
      | ret => exact he
      | exit i => exact he

theorem evalC_mono {C : Cfg} {c c' : CallFn} (hc : CallLe c c') {base n n' : Nat} (hn : n ≤ n') : ∀ (code : Code) (st : St) (r : Ex × St), evalC C c base n code st = some r → evalC C c' base n' code st = some r
  | .skip, _, _, he => he
  | .label _, _, _, he => he
  | .region _ ops _, st, r, he => by
    simp only [evalC] at he ⊢
    cases hq : evalOps C c base ops ops.toList st with
    | none => rw [hq] at he; cases he
    | some s => rw [evalOps_mono hc hq]; rw [hq] at he; exact he
  | .seq a b, st, r, he => by
    simp only [evalC] at he ⊢
    cases hq : evalC C c base n a st with
    | none => rw [hq] at he; cases he
    | some p =>
      rw [evalC_mono hc hn a st p hq]
      rw [hq] at he
      obtain ⟨x, s⟩ := p
      cases x with
      | normal => exact evalC_mono hc hn b s r he
      | ret => exact he
      | exit i => exact he
  | .cond x a b, st, r, he => by
    simp only [evalC] at he ⊢
    split at he
    · exact evalC_mono hc hn a st r he
    · exact evalC_mono hc hn b st r he
    · cases he
  | .block id body, st, r, he => by
    simp only [evalC] at he ⊢
    cases hq : evalC C c base n body st with
    | none => rw [hq] at he; cases he
    | some p => rw [evalC_mono hc hn body st p hq]; rw [hq] at he; exact he
  | .loop body, st, r, he => by
    simp only [evalC] at he ⊢
    exact iter_mono (fun s q => evalC_mono hc hn body s q) hn he
  | .scope body, st, r, he => by
    simp only [evalC] at he ⊢
    exact evalC_mono hc hn body st r he
  | .exit _, _, _, he => he
  | .ret, _, _, he => he
  | .rangeFunc .., _, _, he => by simp [evalC] at he
  | .goto _, _, _, he => by simp [evalC] at he

theorem evalF_succ {C : Cfg} {k : Nat} (ih : CallLe (evalF C k) (evalF C (k + 1))) : CallLe (evalF C (k + 1)) (evalF C (k + 1 + 1)) := by
  intro f args h r he
  rw [evalF] at he ⊢
  split at he
  · cases he
  · rename_i hm
    rw [if_neg hm]
    split at he
    · cases he
    · rename_i fn hfn
      split at he
      · cases he
      · rename_i c hb
        split at he
        · cases he
        · rename_i x st hne hq
          have := evalC_mono (C := C.on f) ih (Nat.le_succ k) c _ _ hq
          simp only [hb, this]
          cases x with
          | exit i => exact (hne i rfl).elim
          | normal => exact he
          | ret => exact he
        · cases he

theorem evalF_mono {C : Cfg} : ∀ {k k' : Nat}, k ≤ k' → CallLe (evalF C k) (evalF C k') := by
  have one : ∀ k, CallLe (evalF C k) (evalF C (k + 1)) := by
    intro k
    induction k with
    | zero => intro f args h r he; simp [evalF] at he
    | succ k ih => exact evalF_succ ih
  intro k k' h
  induction h with
  | refl => exact CallLe.refl _
  | step _ ih => exact fun g vs hp r he => one _ g vs hp r (ih g vs hp r he)

/-- A piece of code runs to an end of which Q holds. -/
def Ev (C : Cfg) (base : Nat) (c : Code) (st : St) (Q : Ex → St → Prop) : Prop :=
  ∃ n x st', evalC C (evalF C n) base n c st = some (x, st') ∧ Q x st'
def EvOps (C : Cfg) (base : Nat) (ops : Array Oper) (l : List Oper) (st : St) (Q : St → Prop) : Prop :=
  ∃ n st', evalOps C (evalF C n) base ops l st = some st' ∧ Q st'

def onNormal (R : St → Prop) (Q : Ex → St → Prop) : Ex → St → Prop
  | .normal, s => R s
  | .ret, s => Q .ret s
  | .exit i, s => Q (.exit i) s
def onBlock (id : Nat) (Q : Ex → St → Prop) : Ex → St → Prop
  | .normal, s => Q .normal s
  | .ret, s => Q .ret s
  | .exit i, s => if i = id then Q .normal s else Q (.exit i) s

theorem Ev.at {C : Cfg} {base n n' : Nat} {c : Code} {st st' : St} {x : Ex} (h : evalC C (evalF C n) base n c st = some (x, st')) (hn : n ≤ n') : evalC C (evalF C n') base n' c st = some (x, st') :=
  evalC_mono (evalF_mono hn) hn c st _ h

theorem Ev.mono {C : Cfg} {base : Nat} {c : Code} {st : St} {Q Q' : Ex → St → Prop} (h : Ev C base c st Q) (hq : ∀ x s, Q x s → Q' x s) : Ev C base c st Q' := by
  obtain ⟨n, x, s, h1, h2⟩ := h
  exact ⟨n, x, s, h1, hq x s h2⟩

theorem Ev.skip {C : Cfg} {base : Nat} {st : St} {Q : Ex → St → Prop} (h : Q .normal st) : Ev C base .skip st Q := ⟨0, _, _, rfl, h⟩
theorem Ev.label {C : Cfg} {base l : Nat} {st : St} {Q : Ex → St → Prop} (h : Q .normal st) : Ev C base (.label l) st Q := ⟨0, _, _, rfl, h⟩
theorem Ev.ret {C : Cfg} {base : Nat} {st : St} {Q : Ex → St → Prop} (h : Q .ret st) : Ev C base .ret st Q := ⟨0, _, _, rfl, h⟩
theorem Ev.exit {C : Cfg} {base id : Nat} {st : St} {Q : Ex → St → Prop} (h : Q (.exit id) st) : Ev C base (.exit id) st Q := ⟨0, _, _, rfl, h⟩
theorem Ev.scope {C : Cfg} {base : Nat} {c : Code} {st : St} {Q : Ex → St → Prop} (h : Ev C base c st Q) : Ev C base (.scope c) st Q := by
  obtain ⟨n, x, s, h1, h2⟩ := h
  exact ⟨n, x, s, by rw [evalC]; exact h1, h2⟩

theorem Ev.region {C : Cfg} {base id : Nat} {ops : Array Oper} {b : Bool} {st : St} {Q : Ex → St → Prop} (h : EvOps C base ops ops.toList st (Q .normal)) : Ev C base (.region id ops b) st Q := by
  obtain ⟨n, s, h1, h2⟩ := h
  exact ⟨n, .normal, s, by simp [evalC, h1], h2⟩

theorem Ev.seq {C : Cfg} {base : Nat} {a b : Code} {st : St} {Q : Ex → St → Prop} (h : Ev C base a st (onNormal (fun s => Ev C base b s Q) Q)) : Ev C base (a.seq b) st Q := by
  obtain ⟨n, x, s, h1, h2⟩ := h
  cases x with
  | normal =>
    obtain ⟨n', x', s', h3, h4⟩ := h2
    refine ⟨max n n', x', s', ?_, h4⟩
    rw [evalC, Ev.at h1 (Nat.le_max_left _ _)]
    exact Ev.at h3 (Nat.le_max_right _ _)
  | ret => exact ⟨n, .ret, s, by rw [evalC, h1], h2⟩
  | exit i => exact ⟨n, .exit i, s, by rw [evalC, h1], h2⟩

theorem Ev.cond {C : Cfg} {base : Nat} {x : Operand} {a b : Code} {st : St} {Q : Ex → St → Prop} (v : Bool) (hx : evalOperand st.fr x = some (.bool v)) (h1 : v = true → Ev C base a st Q) (h2 : v = false → Ev C base b st Q) : Ev C base (.cond x a b) st Q := by
  cases v with
  | true =>
    obtain ⟨n, x', s, h3, h4⟩ := h1 rfl
    exact ⟨n, x', s, by rw [evalC, hx]; exact h3, h4⟩
  | false =>
    obtain ⟨n, x', s, h3, h4⟩ := h2 rfl
    exact ⟨n, x', s, by rw [evalC, hx]; exact h3, h4⟩

theorem Ev.block {C : Cfg} {base id : Nat} {c : Code} {st : St} {Q : Ex → St → Prop} (h : Ev C base c st (onBlock id Q)) : Ev C base (.block id c) st Q := by
  obtain ⟨n, x, s, h1, h2⟩ := h
  cases x with
  | normal => exact ⟨n, .normal, s, by rw [evalC, h1], h2⟩
  | ret => exact ⟨n, .ret, s, by rw [evalC, h1], h2⟩
  | exit i =>
    simp only [onBlock] at h2
    by_cases hi : i = id
    · rw [if_pos hi] at h2
      exact ⟨n, .normal, s, by rw [evalC, h1]; simp [hi], h2⟩
    · rw [if_neg hi] at h2
      exact ⟨n, .exit i, s, by rw [evalC, h1]; simp [hi], h2⟩

/-- A loop: I, with a measure. -/
theorem Ev.loop {C : Cfg} {base : Nat} {c : Code} {Q : Ex → St → Prop} (I : Nat → St → Prop) (step : ∀ m st, I m st → Ev C base c st (onNormal (fun s => ∃ m', m' < m ∧ I m' s) Q)) :
    ∀ (m : Nat) (st : St), I m st → Ev C base (.loop c) st Q := by
  intro m
  induction m using Nat.strongRecOn with
  | ind m ih =>
    intro st hi
    obtain ⟨n, x, s, h1, h2⟩ := step m st hi
    cases x with
    | normal =>
      obtain ⟨m', hm, hi'⟩ := h2
      obtain ⟨n', x', s', h3, h4⟩ := ih m' hm s hi'
      refine ⟨max n n' + 1, x', s', ?_, h4⟩
      rw [evalC] at h3 ⊢
      rw [iter, Ev.at h1 (n' := max n n' + 1) (by omega)]
      exact iter_mono (fun s q hq => evalC_mono (evalF_mono (by omega)) (by omega) c s q hq) (Nat.le_max_right n n') h3
    | ret => exact ⟨n + 1, .ret, s, by rw [evalC, iter, Ev.at h1 (n' := n + 1) (by omega)], h2⟩
    | exit i => exact ⟨n + 1, .exit i, s, by rw [evalC, iter, Ev.at h1 (n' := n + 1) (by omega)], h2⟩

theorem EvOps.nil {C : Cfg} {base : Nat} {ops : Array Oper} {st : St} {Q : St → Prop} (h : Q st) : EvOps C base ops [] st Q := ⟨0, st, rfl, h⟩
/-- Operations without a call. -/
theorem EvOps.run {C : Cfg} {base : Nat} {ops : Array Oper} {l : List Oper} {st st' : St} {Q : St → Prop} (h : ∀ call, evalOps C call base ops l st = some st') (hq : Q st') : EvOps C base ops l st Q := ⟨0, st', h _, hq⟩
theorem EvOps.one {C : Cfg} {base : Nat} {ops : Array Oper} {o : Oper} {l : List Oper} {st st' : St} {Q : St → Prop} (h : ∀ call, stepOp C call base ops o st = some st') (hq : EvOps C base ops l st' Q) : EvOps C base ops (o :: l) st Q := by
  obtain ⟨n, s, h1, h2⟩ := hq
  exact ⟨n, s, by rw [evalOps, h]; exact h1, h2⟩

/-- A pure function's answer. -/
def Ret (C : Cfg) (f : FuncId) (as : List AV) (v : AV) : Prop :=
  ∃ k, ∀ vs, stripL vs = as → ∀ h d, callF C (evalF C k) f vs h d = some (v, h, d)

theorem EvOps.call {C : Cfg} {base : Nat} {ops : Array Oper} {o : Oper} {l : List Oper} {st : St} {Q : St → Prop} {g : FuncId} {args : Array Operand} {ts : Array TypeId} {vs as : List AV} {v : AV}
    (hop : o.op = .call ⟨.value (.func g), args, ts⟩) (hw : Region.wanted o (yieldedA ops st.fr) = true) (hargs : args.toList.mapM (evalOperand st.fr) = some vs) (hs : stripL vs = as) (hr : Ret C g as v)
    (hq : EvOps C base ops l (St.put ⟨st.fr, st.h, st.d⟩ o.dst v) Q) : EvOps C base ops (o :: l) st Q := by
  obtain ⟨k, hk⟩ := hr
  obtain ⟨n, s, h1, h2⟩ := hq
  refine ⟨max n k, s, ?_, h2⟩
  have hstep : stepOp C (evalF C (max n k)) base ops o st = some (St.put ⟨st.fr, st.h, st.d⟩ o.dst v) := by
    have hc := callF_mono (C := C) (evalF_mono (Nat.le_max_right n k)) (hk vs hs st.h st.d)
    unfold stepOp
    rw [if_pos hw]
    unfold evalOp
    simp only [hop, hargs, evalOperand, List.nil_append, List.append_nil, hc]
  rw [evalOps, hstep]
  exact evalOps_mono (evalF_mono (Nat.le_max_left _ _)) h1

theorem Cfg.on_on (C : Cfg) (f g : FuncId) : (C.on f).on g = C.on g := rfl
theorem Cfg.on_eq {C : Cfg} {f : FuncId} (h : C.arrOf f = C.arr) : C.on f = C := by
  obtain ⟨P, mode, prim, hprim, arrOf, arr⟩ := C
  simp only at h
  simp only [Cfg.on, h]
theorem evalF_on (C : Cfg) (f : FuncId) : ∀ k, evalF (C.on f) k = evalF C k
  | 0 => rfl
  | k + 1 => by
    funext g vs h
    rw [evalF, evalF, evalF_on C f k]
/-- How a function's body must end. -/
def Done (C : Cfg) (fn : Func) (v : AV) : Ex → St → Prop
  | .exit _, _ => False
  | _, st => ∃ v0, resultsA C.P fn.results.toList st.fr st.h = some v0 ∧ v0.strip = v
/-- .. where arrays are handed back as lists. -/
def DoneA (C : Cfg) (fn : Func) (v : AV) : Ex → St → Prop
  | .exit _, _ => False
  | _, st => ∃ v0, resultsA C.P fn.results.toList st.fr st.h = some v0 ∧ (frz st.h 3 v0).strip = v

mutual
/-- A value without references into the heap has no arrays. -/
theorem fz_clean (g : Nat → Nat → Nat → Nat → Option (List AV)) : ∀ x : AV, x.strip.clean 0 = true → x.fz g = x
  | .bool _, _ => rfl
  | .int _ _, _ => rfl
  | .str _, _ => rfl
  | .nilp, _ => rfl
  | .nils, _ => rfl
  | .raw _, _ => rfl
  | .nilFunc, _ => rfl
  | .nilIface, _ => rfl
  | .ptr _ _, _ => rfl
  | .func _ _ _, _ => rfl
  | .slice b _ _ _ _ _, h => by simp [AV.strip, AV.clean] at h
  | .rptr x, h => by simp only [AV.strip, AV.clean] at h; simp only [AV.fz, fz_clean g x h]
  | .list xs _ _ _, h => by simp only [AV.strip, AV.clean, Bool.and_eq_true] at h; simp only [AV.fz, fzL_clean g xs h.1]
  | .iface _ x, h => by simp only [AV.strip, AV.clean] at h; simp only [AV.fz, fz_clean g x h]
  | .agg xs, h => by simp only [AV.strip, AV.clean] at h; simp only [AV.fz, fzL_clean g xs h]
  | .tuple xs, h => by simp only [AV.strip, AV.clean] at h; simp only [AV.fz, fzL_clean g xs h]
theorem fzL_clean (g : Nat → Nat → Nat → Nat → Option (List AV)) : ∀ xs : List AV, cleanL 0 (stripL xs) = true → fzL g xs = xs
  | [], _ => rfl
  | x :: xs, h => by
    simp only [stripL, cleanL, Bool.and_eq_true] at h
    simp only [fzL, fz_clean g x h.1, fzL_clean g xs h.2]
end
mutual
theorem strip_clean' (n : Nat) : ∀ x : AV, x.clean n = true → x.strip.clean n = true
  | .bool _, _ => rfl
  | .int _ _, _ => rfl
  | .str _, _ => rfl
  | .nilp, _ => rfl
  | .nils, _ => rfl
  | .raw _, _ => rfl
  | .nilFunc, _ => rfl
  | .nilIface, _ => rfl
  | .ptr _ _, h => h
  | .func _ a b, h => by simp only [AV.clean, Bool.and_eq_true] at h; simp only [AV.strip, AV.clean, stripL_clean n a h.1, stripL_clean n b h.2, Bool.and_self]
  | .slice b _ _ _ _ _, h => h
  | .rptr x, h => by simp only [AV.clean] at h; simp only [AV.strip, AV.clean, strip_clean' n x h]
  | .list xs _ _ _, h => by simp only [AV.clean, Bool.and_eq_true] at h; simp only [AV.strip, AV.clean, stripL_clean n xs h.1, Bool.and_self]
  | .iface _ x, h => by simp only [AV.clean] at h; simp only [AV.strip, AV.clean, strip_clean' n x h]
  | .agg xs, h => by simp only [AV.clean] at h; simp only [AV.strip, AV.clean, stripL_clean n xs h]
  | .tuple xs, h => by simp only [AV.clean] at h; simp only [AV.strip, AV.clean, stripL_clean n xs h]
theorem stripL_clean (n : Nat) : ∀ xs : List AV, cleanL n xs = true → cleanL n (stripL xs) = true
  | [], _ => rfl
  | x :: xs, h => by
    simp only [cleanL, Bool.and_eq_true] at h
    simp only [stripL, cleanL, strip_clean' n x h.1, stripL_clean n xs h.2, Bool.and_self]
end
theorem strip_clean (x : AV) (h : x.clean 0 = true) : x.strip.clean 0 = true := strip_clean' 0 x h
theorem frz_clean {h : Heap} {k : Nat} {x : AV} (hx : x.strip.clean 0 = true) : frz h k x = x := by
  cases k with
  | zero => rfl
  | succ k => exact fz_clean _ x hx

theorem Ret.of_bodyA {C : Cfg} {f : FuncId} {fn : Func} {c : Code} {as : List AV} {v : AV} (hh : C.hprim f = none) (hp : C.prim f = none) (hm : C.mode f = .pure) (hfn : C.P.funcs[f]? = some fn) (hb : fn.body = some c) (hcl : cleanL 0 as = true) (hv : v.clean 0 = true)
    (h : Ev (C.on f) 0 c ⟨as ++ List.replicate (fn.ntmps - as.length) .undef, [], false⟩ (DoneA C fn v)) : Ret C f as v := by
  obtain ⟨n, x, st, h1, h2⟩ := h
  rw [evalF_on] at h1
  have hF : ∃ h0 d0 v0, evalF C (n + 1) f as [] = some (v0, h0, d0) ∧ (frz h0 3 v0).strip = v := by
    rw [evalF, if_neg (by rw [hm]; simp)]
    simp only [hfn, hb, List.length_nil, h1]
    have key : ∀ v0, (frz st.h 3 v0).strip = v → ∃ h0 d0 v1, (if (!st.d && v0.clean 0) = true then some (v0, ([] : Heap), false) else some (v0, st.h, st.d)) = some (v1, h0, d0) ∧ (frz h0 3 v1).strip = v := by
      intro v0 hs
      split
      · rename_i hc
        refine ⟨_, _, _, rfl, ?_⟩
        simp only [Bool.and_eq_true] at hc
        have hc2 : v0.strip.clean 0 = true := strip_clean v0 hc.2
        rw [frz_clean hc2] at hs ⊢
        exact hs
      · exact ⟨_, _, _, rfl, hs⟩
    cases x with
    | exit i => exact h2.elim
    | normal =>
      obtain ⟨v0, hr, hs⟩ := h2
      simp only [hr]
      exact key v0 hs
    | ret =>
      obtain ⟨v0, hr, hs⟩ := h2
      simp only [hr]
      exact key v0 hs
  obtain ⟨h0, d0, v0, e1, e2⟩ := hF
  refine ⟨n + 1, fun vs hs h d => ?_⟩
  unfold callF
  simp only [hh, hp, hm, hs, if_pos hcl, e1, e2, if_pos hv]

theorem Ret.of_body {C : Cfg} {f : FuncId} {fn : Func} {c : Code} {as : List AV} {v : AV} (hp : C.prim f = none) (hm : C.mode f = .pure) (hfn : C.P.funcs[f]? = some fn) (hb : fn.body = some c) (hcl : cleanL 0 as = true) (hv : v.clean 0 = true)
    (h : Ev C 0 c ⟨as ++ List.replicate (fn.ntmps - as.length) .undef, [], false⟩ (Done C fn v)) (hh : C.hprim f = none := by rfl) (ha : C.arrOf f = C.arr := by rfl) : Ret C f as v := by
  refine Ret.of_bodyA hh hp hm hfn hb hcl hv ?_
  rw [Cfg.on_eq ha]
  refine h.mono fun x s hx => ?_
  have key : ∀ v0, v0.strip = v → (frz s.h 3 v0).strip = v := fun v0 hs => by rw [frz_clean (by rw [hs]; exact hv)]; exact hs
  cases x with
  | exit i => exact hx
  | normal => obtain ⟨v0, hr, hs⟩ := hx; exact ⟨v0, hr, key v0 hs⟩
  | ret => obtain ⟨v0, hr, hs⟩ := hx; exact ⟨v0, hr, key v0 hs⟩

theorem Ret.of_prim {C : Cfg} {f : FuncId} {p : List AV → Option AV} {as : List AV} {v : AV} (hp : C.prim f = some p) (hcl : cleanL 0 as = true) (hq : p as = some v) (hv : v.clean 0 = true) (hh : C.hprim f = none := by rfl) : Ret C f as v :=
  ⟨0, fun vs hs h d => by unfold callF; simp only [hh, hp, hs, if_pos hcl, hq, Option.bind_some, if_pos hv]⟩

/-- The law itself. -/
theorem law_of_body {C : Cfg} {f : FuncId} {fn : Func} {c : Code} {as : List AV} {v : AV} (hm : C.mode f ≠ .no) (hfn : C.P.funcs[f]? = some fn) (hb : fn.body = some c)
    (h : Ev C 0 c ⟨as ++ List.replicate (fn.ntmps - as.length) .undef, [], false⟩ (fun x st => (∀ i, x ≠ .exit i) ∧ resultsA C.P fn.results.toList st.fr st.h = some v)) (ha : C.arrOf f = C.arr := by rfl) : ∃ k h d, evalF C k f as [] = some (v, h, d) := by
  obtain ⟨n, x, st, h1, hne, hr⟩ := h
  refine ⟨n + 1, ?_⟩
  rw [evalF, if_neg hm, Cfg.on_eq ha]
  simp only [hfn, hb, List.length_nil, h1]
  cases x with
  | exit i => exact (hne i rfl).elim
  | normal => simp only [hr]; split <;> exact ⟨_, _, rfl⟩
  | ret => simp only [hr]; split <;> exact ⟨_, _, rfl⟩

end Go.Proofs.Ytpfdfilkhaoibaa.Ev

/-
  Following a run: slots, growing lists, calls; what the simplifier knows.
-/
namespace Go.Proofs.Ytpfdfilkhaoibaa.Ev
open Go
set_option linter.unusedVariables false
set_option linter.unusedSimpArgs false

theorem stripL_map {α : Type} (f : α → AV) (hf : ∀ a, (f a).strip = f a) : ∀ l : List α, stripL (l.map f) = l.map f
  | [] => by simp only [List.map_nil, stripL]
  | a :: l => by simp only [List.map_cons, stripL, hf a, stripL_map f hf l]
theorem cleanL_map {α : Type} (n : Nat) (f : α → AV) (hf : ∀ a, (f a).clean n = true) : ∀ l : List α, cleanL n (l.map f) = true
  | [] => by simp only [List.map_nil, cleanL]
  | a :: l => by simp only [List.map_cons, cleanL, hf a, cleanL_map n f hf l, Bool.and_self]
@[simp] theorem strip_str (s : List UInt8) : (AV.str s).strip = .str s := by simp only [AV.strip]
@[simp] theorem strip_int (k : IntKind) (n : Int) : (AV.int k n).strip = .int k n := by simp only [AV.strip]
@[simp] theorem strip_bool (b : Bool) : (AV.bool b).strip = .bool b := by simp only [AV.strip]
@[simp] theorem strip_func (fn : Fn) (a b : List AV) : (AV.func fn a b).strip = .func fn (stripL a) (stripL b) := by simp only [AV.strip]
@[simp] theorem strip_agg (l : List AV) : (AV.agg l).strip = .agg (stripL l) := by simp only [AV.strip]
@[simp] theorem strip_tuple (l : List AV) : (AV.tuple l).strip = .tuple (stripL l) := by simp only [AV.strip]
@[simp] theorem strip_nilp : AV.nilp.strip = .nilp := by simp only [AV.strip]
@[simp] theorem strip_nilFunc : AV.nilFunc.strip = .nilFunc := by simp only [AV.strip]
@[simp] theorem strip_nilIface : AV.nilIface.strip = .nilIface := by simp only [AV.strip]
@[simp] theorem strip_rptr (v : AV) : (AV.rptr v).strip = .rptr v.strip := by simp only [AV.strip]
@[simp] theorem strip_iface (t : TypeId) (v : AV) : (AV.iface t v).strip = .iface t v.strip := by simp only [AV.strip]
@[simp] theorem clean_str (n : Nat) (s : List UInt8) : (AV.str s).clean n = true := by simp only [AV.clean]
@[simp] theorem clean_int (m : Nat) (k : IntKind) (n : Int) : (AV.int k n).clean m = true := by simp only [AV.clean]
@[simp] theorem clean_bool (m : Nat) (b : Bool) : (AV.bool b).clean m = true := by simp only [AV.clean]
@[simp] theorem clean_nils (m : Nat) : AV.nils.clean m = true := by simp only [AV.clean]
@[simp] theorem clean_nilp (m : Nat) : AV.nilp.clean m = true := by simp only [AV.clean]
@[simp] theorem clean_nilFunc (m : Nat) : AV.nilFunc.clean m = true := by simp only [AV.clean]
@[simp] theorem clean_nilIface (m : Nat) : AV.nilIface.clean m = true := by simp only [AV.clean]
@[simp] theorem clean_func (n : Nat) (fn : Fn) (a b : List AV) : (AV.func fn a b).clean n = (cleanL n a && cleanL n b) := by simp only [AV.clean]
@[simp] theorem clean_agg (n : Nat) (l : List AV) : (AV.agg l).clean n = cleanL n l := by simp only [AV.clean]
@[simp] theorem clean_tuple (n : Nat) (l : List AV) : (AV.tuple l).clean n = cleanL n l := by simp only [AV.clean]
@[simp] theorem clean_list (n : Nat) (xs : List AV) (nn : Bool) (c : Option Nat) : (AV.list xs nn c none).clean n = cleanL n xs := by simp only [AV.clean, Bool.and_true]
@[simp] theorem strip_nils : AV.nils.strip = .L [] := by simp only [AV.strip]
@[simp] theorem strip_list (xs : List AV) (nn : Bool) (c t : Option Nat) : (AV.list xs nn c t).strip = .list (stripL xs) false none none := by simp only [AV.strip]
@[simp] theorem stripL_nil : stripL [] = [] := by simp only [stripL]
@[simp] theorem stripL_cons (x : AV) (l : List AV) : stripL (x :: l) = x.strip :: stripL l := by simp only [stripL]
@[simp] theorem cleanL_nil (n : Nat) : cleanL n [] = true := by simp only [cleanL]
@[simp] theorem cleanL_cons (n : Nat) (x : AV) (l : List AV) : cleanL n (x :: l) = (x.clean n && cleanL n l) := by simp only [cleanL]
@[simp] theorem stripL_strs (ss : List (List UInt8)) : stripL (ss.map AV.str) = ss.map AV.str := stripL_map _ strip_str ss
@[simp] theorem cleanL_strs (n : Nat) (ss : List (List UInt8)) : cleanL n (ss.map AV.str) = true := cleanL_map n _ (clean_str n) ss

/-- A list of texts; a list of lists of texts. -/
def strs (ss : List (List UInt8)) : AV := .L (ss.map .str)
@[simp] theorem strip_strs (ss : List (List UInt8)) : (strs ss).strip = strs ss := by simp only [strs, strip_list, stripL_strs]
@[simp] theorem clean_strs (n : Nat) (ss : List (List UInt8)) : (strs ss).clean n = true := by simp only [strs, clean_list, cleanL_strs]
@[simp] theorem stripL_strss (ss : List (List (List UInt8))) : stripL (ss.map strs) = ss.map strs := stripL_map _ strip_strs ss
@[simp] theorem cleanL_strss (n : Nat) (ss : List (List (List UInt8))) : cleanL n (ss.map strs) = true := cleanL_map n _ (clean_strs n) ss
def strss (ss : List (List (List UInt8))) : AV := .L (ss.map strs)
@[simp] theorem strip_strss (ss : List (List (List UInt8))) : (strss ss).strip = strss ss := by simp only [strss, strip_list, stripL_strss]
@[simp] theorem clean_strss (n : Nat) (ss : List (List (List UInt8))) : (strss ss).clean n = true := by simp only [strss, clean_list, cleanL_strss]

/-- What lies in a slot. -/
def slotAt (fr : List AV) (t : Nat) : Option AV := fr[t]?
theorem slotAt_set (fr : List AV) (i j : Nat) (v : AV) : slotAt (fr.set i v) j = if i = j then (if i < fr.length then some v else none) else slotAt fr j := by
  unfold slotAt
  rw [List.getElem?_set]
theorem slotAt_zero (a : AV) (l : List AV) : slotAt (a :: l) 0 = some a := rfl
theorem slotAt_succ (a : AV) (l : List AV) (n : Nat) : slotAt (a :: l) (n + 1) = slotAt l n := rfl
theorem slotAt_rep (n j : Nat) (v : AV) : slotAt (List.replicate n v) j = if j < n then some v else none := by
  unfold slotAt
  rw [List.getElem?_replicate]
attribute [simp] slotAt_set slotAt_zero slotAt_succ slotAt_rep
@[simp] theorem op_tmp (fr : List AV) (t : Nat) : evalOperand fr (.tmp t) = slotAt fr t := rfl
@[simp] theorem op_const (fr : List AV) (v : Value) : evalOperand fr (.const v) = ofConst v := rfl
@[simp] theorem op_func (fr : List AV) (f : FuncId) : evalOperand fr (.func f) = some (.func (.func f) [] []) := rfl
@[simp] theorem res_tmp (P : Program) (fr : List AV) (h : Heap) (t : Nat) : resultA P fr h (.tmp t) = slotAt fr t := rfl
@[simp] theorem res_cell (P : Program) (fr : List AV) (h : Heap) (a : Nat) (t : TypeId) : resultA P fr h (.cell a t) = match slotAt fr a with | some v => loadA P t h v | none => none := rfl
@[simp] theorem yielded_look (ops : Array Oper) (fr : List AV) (j : Nat) : yieldedA ops fr j = match ((ops[j]?).bind (·.dst)).bind (slotAt fr ·) with | some (.bool b) => some b | some (.raw (.bool b)) => some b | _ => none := rfl
attribute [simp] evalOps stepOp Region.wanted evalOp freshB tokV St.put ofConst ofCell indexAddrA indexA loadA storeA partA fieldA fieldAddrA binA strBin wrapBin shiftA eqA unA lenA convA boundsA intOf? nilOk isC eqIn eqFs AV.cells AV.one AV.undef onNormal onBlock Done resultsA cls
@[simp] theorem headOk_strs (l : List (List UInt8)) : headOk 1 (l.map .str) = true := by cases l <;> rfl
@[simp] theorem headOk_strss (l : List (List (List UInt8))) : headOk 1 (l.map strs) = true := by cases l <;> rfl
@[simp] theorem headOk_nil (n : Nat) : headOk n [] = true := rfl
@[simp] theorem headOk_cons (n : Nat) (x : AV) (l : List AV) : headOk n (x :: l) = (x.cells.length == n) := rfl
@[simp] theorem nat_le1 (n : Nat) : ((1 : Int) ≤ (n : Int) + 1) = True := eq_true (by omega)
@[simp] theorem nat_le0 (n : Nat) : ((0 : Int) ≤ (n : Int) + 1) = True := eq_true (by omega)
@[simp] theorem nat_lt0 (n : Nat) : ((0 : Int) < (n : Int) + 1) = True := eq_true (by omega)
@[simp] theorem nat_ne0 (n : Nat) : (((n : Int) + 1) = 0) = False := eq_false (by omega)
@[simp] theorem nat_beq0 (n : Nat) : (((n : Int) + 1) == 0) = false := by simp
@[simp] theorem take_map_len {α β : Type} (f : α → β) (l : List α) : (l.map f).take l.length = l.map f := List.take_of_length_le (by simp)

theorem wrap_nat (n : Nat) (h : n < 2 ^ 62) : IntKind.wrap .i64 (n : Int) = n := by
  simp [IntKind.wrap, IntKind.bits, IntKind.signed]; omega
theorem wrap_succ (n : Nat) (h : n < 2 ^ 61) : IntKind.wrap .i64 ((n : Int) + 1) = ((n + 1 : Nat) : Int) := by
  rw [← wrap_nat (n + 1) (by omega)]; simp
theorem wrap_int (n : Int) (h0 : -(2 ^ 62) ≤ n) (h : n < 2 ^ 62) : IntKind.wrap .i64 n = n := by
  simp [IntKind.wrap, IntKind.bits, IntKind.signed]; omega

/-- A list that grows by append. -/
def Grow (n : Nat) (h : Heap) (x : AV) (xs : List AV) : Prop :=
  (x = .nils ∧ xs = []) ∨ (∃ τ, x = .list xs true none (some τ) ∧ h[τ]? = some (.own xs.length n)) ∨ (∃ nn, x = .list xs nn (some xs.length) none)
theorem Grow.nils (n : Nat) (h : Heap) : Grow n h .nils [] := .inl ⟨rfl, rfl⟩
theorem Grow.strip {n : Nat} {h : Heap} {x : AV} {xs : List AV} (g : Grow n h x xs) : x.strip = .L (stripL xs) := by
  rcases g with ⟨rfl, rfl⟩ | ⟨τ, rfl, _⟩ | ⟨nn, rfl⟩ <;> simp
def tokOf : AV → Option Nat
  | .list _ _ _ tok => tok
  | _ => none
/-- What stays when a list grows: all but its own right. -/
structure Stays (x : AV) (h : Heap) (x' : AV) (h' : Heap) : Prop where
  len : h.length ≤ h'.length
  old : ∀ i, i < h.length → tokOf x ≠ some i → h'[i]? = h[i]?
  tok : tokOf x' = tokOf x ∨ ∀ i, tokOf x' = some i → h.length ≤ i

theorem Grow.stays {n : Nat} {h h' : Heap} {x x' y : AV} {xs : List AV} (g : Grow n h y xs) (s : Stays x h x' h') (ht : ∀ i, tokOf y = some i → tokOf x ≠ some i) : Grow n h' y xs := by
  rcases g with g | ⟨τ, rfl, e⟩ | g
  · exact .inl g
  · refine .inr (.inl ⟨τ, rfl, ?_⟩)
    rw [s.old τ (List.getElem?_eq_some_iff.1 e).1 (ht τ rfl)]
    exact e
  · exact .inr (.inr g)

theorem newsA_of {ud : TypeDesc} {h : Heap} {n by_ : Nat} {z y : AV} {ys : List AV} (hud : appendable ud = true) (hy : elemsA h n y = some ys) : newsA ud h n by_ z y = some ys := by
  unfold newsA
  cases ud <;> simp_all [appendable]
theorem appendA_grow {P : Program} {t u e : TypeId} {n by_ : Nat} {z : AV} {ud : TypeDesc} (ht : P.underlying t = some (.slice e)) (hu : P.underlying u = some ud) (hud : appendable ud = true) (hn : tySize P e = some n) (hb : tyBytes P e = some by_) (hz : tyZero P e = some z) (hzn : z.cells.length = n)
    {h : Heap} {x y : AV} {xs ys : List AV} (g : Grow n h x xs) (hx : headOk n xs = true) (hy : elemsA h n y = some ys) (hlim : (xs.length + ys.length) * by_ ≤ 35184372088832 ∧ xs.length + ys.length ≤ 35184372088832) :
    ∃ x' h' wr, appendA P false [t, u] h x y = some (x', h', wr) ∧ Grow n h' x' (xs ++ ys) ∧ Stays x h x' h' ∧ wrDirty 0 wr = false := by
  unfold appendA
  simp only [ht, hu, hn, hb, hz, newsA_of hud hy, hzn]
  simp only [ne_eq, not_true, if_false, reduceCtorEq]
  rcases g with ⟨rfl, rfl⟩ | ⟨τ, rfl, hτ⟩ | ⟨nn, rfl⟩
  · simp only [List.length_nil, Nat.zero_add, List.nil_append] at hlim ⊢
    by_cases he : ys.isEmpty = true
    · rw [if_pos he]
      have : ys = [] := List.isEmpty_iff.1 he
      subst this
      exact ⟨_, _, _, rfl, Grow.nils _ _, ⟨Nat.le_refl _, fun _ _ _ => rfl, .inl rfl⟩, rfl⟩
    · rw [if_neg he, if_pos hlim]
      refine ⟨_, _, _, rfl, .inr (.inl ⟨_, rfl, by simp⟩), ⟨by simp, fun i hi _ => by rw [List.getElem?_append_left hi], .inr fun i hi => ?_⟩, rfl⟩
      simp only [tokOf, Option.some.injEq] at hi
      omega
  · by_cases he : ys.isEmpty = true
    · simp only [if_pos he]
      have : ys = [] := List.isEmpty_iff.1 he
      subst this
      exact ⟨_, _, _, rfl, .inr (.inl ⟨τ, by simp, by simpa using hτ⟩), ⟨Nat.le_refl _, fun _ _ _ => rfl, .inl rfl⟩, rfl⟩
    · simp only [if_neg he, hlim, and_self, not_true, if_false, hx, hτ, reduceCtorEq]
      refine ⟨_, _, _, rfl, .inr (.inl ⟨τ, rfl, ?_⟩), ⟨by simp, fun i hi hne => ?_, .inl rfl⟩, by simp [wrDirty]⟩
      · rw [List.getElem?_set_self (List.getElem?_eq_some_iff.1 hτ).1, List.length_append]
      · rw [List.getElem?_set_ne]
        intro e
        exact hne (by simp [tokOf, e])
  · by_cases he : ys.isEmpty = true
    · simp only [if_pos he]
      have : ys = [] := List.isEmpty_iff.1 he
      subst this
      exact ⟨_, _, _, rfl, .inr (.inr ⟨nn, by simp⟩), ⟨Nat.le_refl _, fun _ _ _ => rfl, .inl rfl⟩, rfl⟩
    · simp only [if_neg he, hlim, and_self, not_true, if_false, hx, if_true, reduceCtorEq]
      refine ⟨_, _, _, rfl, .inr (.inl ⟨_, rfl, by simp⟩), ⟨by simp, fun i hi _ => by rw [List.getElem?_append_left hi], .inr fun i hi => ?_⟩, rfl⟩
      simp only [tokOf, Option.some.injEq] at hi
      omega

/-- Operations without a call; of the slots behind them K is kept. -/
theorem EvOps.keep {C : Cfg} {base : Nat} {ops : Array Oper} {l : List Oper} {st : St} {fr' : List AV} {h' : Heap} {d' : Bool} {Q : St → Prop} (K : List AV → Prop) (h : ∀ call, evalOps C call base ops l st = some ⟨fr', h', d'⟩) (hk : K fr') (hq : ∀ fr, K fr → Q ⟨fr, h', d'⟩) : EvOps C base ops l st Q :=
  EvOps.run h (hq fr' hk)

@[simp] theorem stripL_append : ∀ (a b : List AV), stripL (a ++ b) = stripL a ++ stripL b
  | [], b => by simp
  | x :: a, b => by simp [stripL_append a b]
theorem stripL_len (xs : List AV) : (stripL xs).length = xs.length := by
  induction xs with
  | nil => simp
  | cons a l ih => simp [ih]
theorem Grow.stripE {n : Nat} {h : Heap} {x : AV} {xs : List AV} (g : Grow n h x xs) : Grow n h (Ev.stripE x) (stripL xs) := by
  have hl : (stripL xs).length = xs.length := stripL_len xs
  rcases g with ⟨rfl, rfl⟩ | ⟨τ, rfl, k⟩ | ⟨nn, rfl⟩
  · exact .inl ⟨rfl, by simp⟩
  · exact .inr (.inl ⟨τ, rfl, by rw [hl]; exact k⟩)
  · exact .inr (.inr ⟨nn, by simp only [Ev.stripE, hl]⟩)
theorem tokOf_stripE (x : AV) : tokOf (stripE x) = tokOf x := by cases x <;> rfl
theorem Stays.stripE {x x' : AV} {h h' : Heap} (s : Stays x h x' h') : Stays x h (Ev.stripE x') h' := ⟨s.len, s.old, by rw [tokOf_stripE]; exact s.tok⟩
/-- append, of a list that grows. -/
theorem EvOps.append {C : Cfg} {ops : Array Oper} {o : Oper} {l : List Oper} {st : St} {Q : St → Prop} {args : Array Operand} {ts : Array TypeId} {t u e : TypeId} {n by_ : Nat} {z : AV} {ud : TypeDesc} {x y : AV} {xs ys : List AV}
    (hop : o.op = .call ⟨.builtin .append, args, ts⟩) (hts : ts = #[t, u]) (hw : Region.wanted o (yieldedA ops st.fr) = true) (hargs : args.toList.mapM (evalOperand st.fr) = some [x, y])
    (ht : C.P.underlying t = some (.slice e)) (hu : C.P.underlying u = some ud) (hud : appendable ud = true) (hn : tySize C.P e = some n) (hb : tyBytes C.P e = some by_) (hz : tyZero C.P e = some z) (hzn : z.cells.length = n)
    (g : Grow n st.h x xs) (hx : headOk n xs = true) (hy : elemsA st.h n y = some ys) (hlim : (xs.length + ys.length) * by_ ≤ 35184372088832 ∧ xs.length + ys.length ≤ 35184372088832)
    (hq : ∀ x' h', Grow n h' x' (xs ++ ys) → Stays x st.h x' h' → EvOps C 0 ops l (St.put ⟨st.fr, h', st.d⟩ o.dst x') Q) (hst : stripL (xs ++ ys) = xs ++ ys := by simp) (harr : C.arr = false := by rfl) : EvOps C 0 ops (o :: l) st Q := by
  obtain ⟨x', h', wr, e1, e2, e3, e4⟩ := appendA_grow ht hu hud hn hb hz hzn g hx hy hlim
  have e2 := e2.stripE
  rw [hst] at e2
  have e3 := e3.stripE
  refine EvOps.one (st' := St.put ⟨st.fr, h', st.d⟩ o.dst (stripE x')) (fun call => ?_) (hq _ h' e2 e3)
  subst hts
  have : evalOp C call 0 o (evalOperand st.fr) st.h st.d = some (stripE x', h', st.d) := by
    unfold evalOp
    simp only [hop, hargs, harr, e1, Option.map_some, e4, Bool.or_false]
  unfold stepOp
  rw [if_pos hw]
  simp only [this]

/-- A call of a value that is a function. -/
theorem EvOps.callv {C : Cfg} {base : Nat} {ops : Array Oper} {o : Oper} {l : List Oper} {st : St} {Q : St → Prop} {f : Operand} {g : FuncId} {first captured : List AV} {args : Array Operand} {ts : Array TypeId} {vs as : List AV} {v : AV}
    (hop : o.op = .call ⟨.value f, args, ts⟩) (hf : evalOperand st.fr f = some (.func (.func g) first captured)) (hw : Region.wanted o (yieldedA ops st.fr) = true) (hargs : args.toList.mapM (evalOperand st.fr) = some vs) (hs : stripL (first ++ vs ++ captured) = as) (hr : Ret C g as v)
    (hq : EvOps C base ops l (St.put ⟨st.fr, st.h, st.d⟩ o.dst v) Q) : EvOps C base ops (o :: l) st Q := by
  obtain ⟨k, hk⟩ := hr
  obtain ⟨n, s, h1, h2⟩ := hq
  refine ⟨max n k, s, ?_, h2⟩
  have hstep : stepOp C (evalF C (max n k)) base ops o st = some (St.put ⟨st.fr, st.h, st.d⟩ o.dst v) := by
    have hc := callF_mono (C := C) (evalF_mono (Nat.le_max_right n k)) (hk _ hs st.h st.d)
    unfold stepOp
    rw [if_pos hw]
    unfold evalOp
    simp only [hop, hargs, hf, hc]
  rw [evalOps, hstep]
  exact evalOps_mono (evalF_mono (Nat.le_max_left _ _)) h1

theorem Ret.of_eval {C : Cfg} {f : FuncId} {as : List AV} {v v0 : AV} {k : Nat} {h' : Heap} {d' : Bool} (hp : C.prim f = none) (hm : C.mode f = .pure) (hcl : cleanL 0 as = true) (hv : v.clean 0 = true)
    (he : evalF C k f as [] = some (v0, h', d')) (hs : v0.strip = v) (hh : C.hprim f = none := by rfl) : Ret C f as v :=
  ⟨k, fun vs e h d => by
    have hz : frz h' 3 v0 = v0 := frz_clean (by rw [hs]; exact hv)
    unfold callF; simp only [hh, hp, hm, e, if_pos hcl, he, hz, hs, if_pos hv]⟩

/-- The operations ahead of one that is taken by a rule of its own. -/
theorem EvOps.cut {C : Cfg} {base : Nat} {ops : Array Oper} {l1 l2 : List Oper} {st : St} {Q : St → Prop} (h : EvOps C base ops l1 st (fun s => EvOps C base ops l2 s Q)) : EvOps C base ops (l1 ++ l2) st Q := by
  obtain ⟨n, s, h1, n', s', h2, h3⟩ := h
  refine ⟨max n n', s', ?_, h3⟩
  have key : ∀ (l1 : List Oper) (st : St) (call : CallFn), evalOps C call base ops l1 st = some s → evalOps C call base ops (l1 ++ l2) st = evalOps C call base ops l2 s := by
    intro l1
    induction l1 with
    | nil => intro st call e; simp only [evalOps, Option.some.injEq] at e; subst e; rfl
    | cons o l ih =>
      intro st call e
      simp only [List.cons_append, evalOps] at e ⊢
      split at e
      · exact ih _ _ e
      · cases e
  rw [key l1 st _ (evalOps_mono (evalF_mono (Nat.le_max_left _ _)) h1)]
  exact evalOps_mono (evalF_mono (Nat.le_max_right _ _)) h2
/-- The first k operations. -/
theorem EvOps.take (k : Nat) {C : Cfg} {base : Nat} {ops : Array Oper} {l : List Oper} {st : St} {Q : St → Prop} (h : EvOps C base ops (l.take k) st (fun s => EvOps C base ops (l.drop k) s Q)) : EvOps C base ops l st Q := by
  have := EvOps.cut h
  rwa [List.take_append_drop] at this

end Go.Proofs.Ytpfdfilkhaoibaa.Ev
