/-
  A whole operation; regions, in the text's order.
-/
import Derived.Test.YtnifldbmflkmpaaEvL
namespace Go.Proofs.Ytnifldbmflkmpaa.Ev
open Go
set_option linter.unusedVariables false
set_option linter.unusedSimpArgs false

/-- What an operation must give. -/
def OpOk (P : Program) (base : Nat) (m : M) (h : Heap) (w : World) (d : Bool) (r : Result Next) (v : AV) (h' : Heap) (d' : Bool) : Prop :=
  Res P r (fun u w' => ∃ m', Step w.heap.size m h w m' h' w' ∧ VRel m' v u) ∧ h.length ≤ h'.length ∧ (d' = false → d = false ∧ ∀ i, i < base → h'[i]? = h[i]?)

theorem OpOk.still {P : Program} {base : Nat} {m : M} {h : Heap} {w : World} {d : Bool} {v : AV} {u : Value} (hi : Inv m h w) (hv : VRel m v u) : OpOk P base m h w d (.ok (.value u) w) v h d :=
  ⟨⟨m, Step.refl hi, hv⟩, Nat.le_refl _, fun e => ⟨e, fun _ _ => rfl⟩⟩

theorem mapM_rel {m : M} {ρ : Operand → Option AV} {ρc : Operand → Value} (hρ : ∀ x v, ρ x = some v → VRel m v (ρc x)) : ∀ (l : List Operand) (vs : List AV), l.mapM ρ = some vs → VRelL m vs (l.map ρc)
  | [], vs, h => by simp at h; subst h; exact .nil
  | x :: l, vs, h => by
    rw [List.mapM_cons] at h
    cases hx : ρ x with
    | none => simp [hx] at h
    | some v =>
      cases hl : l.mapM ρ with
      | none => simp [hx, hl] at h
      | some us =>
        simp [hx, hl] at h
        subst h
        exact .cons (hρ x v hx) (mapM_rel hρ l us hl)
theorem mapM_parts {m : M} {ρ : Operand → Option AV} {ρc : Operand → Value} (hρ : ∀ x v, ρ x = some v → VRel m v (ρc x)) : ∀ (l : List (Nat × Operand)) (ps : List (Nat × AV)),
    l.mapM (fun p => (ρ p.2).map fun v => (p.1, v)) = some ps → PRel m ps (l.map fun p => (p.1, ρc p.2))
  | [], ps, h => by simp at h; subst h; simp [PRel]
  | (i, x) :: l, ps, h => by
    rw [List.mapM_cons] at h
    cases hx : ρ x with
    | none => simp [hx] at h
    | some v =>
      cases hl : l.mapM (fun p => (ρ p.2).map fun v => (p.1, v)) with
      | none => simp [hx, hl] at h
      | some us =>
        simp [hx, hl] at h
        subst h
        simp only [List.map_cons, PRel]
        exact ⟨ρc x, _, rfl, hρ x v hx, mapM_parts hρ l us hl⟩
theorem mapM_opt {m : M} {ρ : Operand → Option AV} {ρc : Operand → Value} (hρ : ∀ x v, ρ x = some v → VRel m v (ρc x)) {o : Option Operand} {r : Option AV} (h : o.mapM ρ = some r) : ORel m r (o.map ρc) := by
  cases o with
  | none => simp at h; subst h; simp [ORel]
  | some x =>
    cases hx : ρ x with
    | none => simp [hx] at h
    | some v => simp [hx] at h; subst h; simpa [ORel] using hρ x v hx

theorem append_dirty {wr : Option Nat} {base : Nat} {h h' : Heap} (hb : base ≤ h.length) (hk : ∀ i, wr ≠ some i → i < h.length → h'[i]? = h[i]?)
    (hd : wrDirty base wr = false) : ∀ i, i < base → h'[i]? = h[i]? := by
  intro i hi
  refine hk i ?_ (by omega)
  rintro rfl
  simp [wrDirty] at hd
  omega

set_option maxHeartbeats 1000000 in
theorem evalOp_ok {C : Cfg} (hC : CfgOk C) {call : CallFn} (hcall : CallSpec C.P call) {base : Nat} {o : Oper} {ρ : Operand → Option AV} {h h' : Heap} {d d' : Bool} {v : AV}
    (he : evalOp C call base o ρ h d = some (v, h', d')) {m : M} {w : World} (hi : Inv m h w) (hb : base ≤ h.length) {ρc : Operand → Value} (hρ : ∀ x v, ρ x = some v → VRel m v (ρc x)) :
    OpOk C.P base m h w d ((execOp ρc o).run C.P w) v h' d' := by
  unfold evalOp at he
  simp only at he
  unfold execOp
  split at he
  · rename_i x ho
    simp only [ho]
    cases hx : ρ x with
    | none => simp [hx] at he
    | some u =>
      simp only [hx, Option.map_some, Option.some.injEq, Prod.mk.injEq] at he
      obtain ⟨rfl, rfl, rfl⟩ := he
      exact OpOk.still hi (hρ x _ hx)
  · rename_i x ho
    simp only [ho]
    cases hx : ρ x with
    | none => simp [hx] at he
    | some u =>
      simp only [hx, Option.map_some, Option.some.injEq, Prod.mk.injEq] at he
      obtain ⟨rfl, rfl, rfl⟩ := he
      exact OpOk.still hi (hρ x _ hx)
  · rename_i c a b ho
    simp only [ho]
    split at he
    · rename_i hc
      have hc' := (hρ c _ hc).bool'
      cases hx : ρ a with
      | none => simp [hx] at he
      | some u =>
        simp only [hx, Option.map_some, Option.some.injEq, Prod.mk.injEq] at he
        obtain ⟨rfl, rfl, rfl⟩ := he
        simp only [hc', asBool, Sem.run_bind, Sem.run_pure, Result.andThen_ok]
        exact OpOk.still hi (hρ a _ hx)
    · rename_i hc
      have hc' := (hρ c _ hc).bool'
      cases hx : ρ b with
      | none => simp [hx] at he
      | some u =>
        simp only [hx, Option.map_some, Option.some.injEq, Prod.mk.injEq] at he
        obtain ⟨rfl, rfl, rfl⟩ := he
        simp only [hc', asBool, Sem.run_bind, Sem.run_pure, Result.andThen_ok]
        exact OpOk.still hi (hρ b _ hx)
    · cases he
  · rename_i t ho
    simp only [ho]
    split at he
    · rename_i z hz
      split at he
      · rename_i hone
        simp only [Option.some.injEq, Prod.mk.injEq] at he
        obtain ⟨rfl, rfl, rfl⟩ := he
        obtain ⟨i, zv, q1, q2, q3⟩ := tyZero_spec hz
        obtain ⟨m', k1, k2, k3⟩ := newVar_ok hi (q3 m) hone t C.P
        simp only [Instr.alloc, Sem.run_bind, run_zeroValue' q1 q2, Result.andThen_ok, k1, Sem.run_pure]
        exact ⟨⟨m', k2, k3⟩, by simp, fun e => ⟨e, fun i hi' => by rw [List.getElem?_append_left (by omega)]⟩⟩
      · cases he
    · cases he
  · rename_i t x ho
    simp only [ho]
    split at he
    · rename_i u hx
      split at he
      · rename_i hone
        simp only [Option.some.injEq, Prod.mk.injEq] at he
        obtain ⟨rfl, rfl, rfl⟩ := he
        obtain ⟨m', k1, k2, k3⟩ := newVar_ok hi (hρ x _ hx) hone t C.P
        simp only [Instr.box, Sem.run_bind, Result.andThen_ok, k1, Sem.run_pure]
        exact ⟨⟨m', k2, k3⟩, by simp, fun e => ⟨e, fun i hi' => by rw [List.getElem?_append_left (by omega)]⟩⟩
      · cases he
    · cases he
  · rename_i t parts ho
    simp only [ho]
    split at he
    · rename_i ps hps
      cases hz : buildA C.P t ps with
      | none => simp [hz] at he
      | some z =>
        simp only [hz, Option.map_some, Option.some.injEq, Prod.mk.injEq] at he
        obtain ⟨rfl, rfl, rfl⟩ := he
        obtain ⟨r, k1, k2⟩ := buildA_ok (P := C.P) (m := m) (w := w) (cparts := parts.map fun (i, x) => (i, ρc x)) hz (by simpa using mapM_parts hρ _ _ hps)
        simp only [Sem.run_bind, Result.andThen_ok, k1, Sem.run_pure]
        exact OpOk.still hi k2
    · cases he
  · rename_i t n parts ho
    simp only [ho]
    split at he
    · rename_i ps hps
      cases hz : buildSliceA C.P t n ps with
      | none => simp [hz] at he
      | some z =>
        simp only [hz, Option.map_some, Option.some.injEq, Prod.mk.injEq] at he
        obtain ⟨rfl, rfl, rfl⟩ := he
        obtain ⟨r, w', m', k1, k2, k3⟩ := buildSliceA_ok (P := C.P) hi (cparts := parts.map fun (i, x) => (i, ρc x)) hz (by simpa using mapM_parts hρ _ _ hps)
        simp only [Sem.run_bind, Result.andThen_ok, k1, Sem.run_pure]
        exact ⟨⟨m', k2, k3⟩, Nat.le_refl _, fun e => ⟨e, fun _ _ => rfl⟩⟩
    · cases he
  · rename_i t a ho
    simp only [ho]
    split at he
    · rename_i x hx
      cases hz : loadA C.P t h x with
      | none => simp [hz] at he
      | some z =>
        simp only [hz, Option.map_some, Option.some.injEq, Prod.mk.injEq] at he
        obtain ⟨rfl, rfl, rfl⟩ := he
        obtain ⟨r, k1, k2⟩ := loadA_ok (P := C.P) hi (hρ a _ hx) hz
        simp only [Sem.run_bind, Result.andThen_ok, k1, Sem.run_pure]
        exact OpOk.still hi k2
    · cases he
  · rename_i t a x ho
    simp only [ho]
    split at he
    · rename_i xa xv ha hx
      cases hz : storeA C.P t h xa xv with
      | none => simp [hz] at he
      | some q =>
        obtain ⟨h1, b⟩ := q
        simp only [hz, Option.map_some, Option.some.injEq, Prod.mk.injEq] at he
        obtain ⟨rfl, rfl, rfl⟩ := he
        obtain ⟨w', k1, k2, k3⟩ := storeA_ok (P := C.P) hi hz (hρ a _ ha) (hρ x _ hx)
        simp only [Sem.run_bind, Result.andThen_ok, k1, Sem.run_pure]
        refine ⟨⟨m, k2, VRel.undef⟩, by rw [k3]; simp, fun e => ?_⟩
        simp only [Bool.or_eq_false_iff, decide_eq_false_iff_not] at e
        refine ⟨e.1, fun i hi' => ?_⟩
        rw [k3, List.getElem?_set_ne (by omega)]
    · cases he
  · rename_i x ho
    simp only [ho]
    split at he
    · rename_i b oo hx
      simp only [Option.some.injEq, Prod.mk.injEq] at he
      obtain ⟨rfl, rfl, rfl⟩ := he
      have := hρ x _ hx
      have h2 := this
      simp only [VRel] at this
      obtain ⟨c, _, e⟩ := this
      rw [e] at h2 ⊢
      exact OpOk.still hi h2
    · rename_i y hx
      simp only [Option.some.injEq, Prod.mk.injEq] at he
      obtain ⟨rfl, rfl, rfl⟩ := he
      have := hρ x _ hx
      have h2 := this
      simp only [VRel] at this
      obtain ⟨c, cv, e, _⟩ := this
      rw [e] at h2 ⊢
      exact OpOk.still hi h2
    · rename_i f a b hx
      simp only [Option.some.injEq, Prod.mk.injEq] at he
      obtain ⟨rfl, rfl, rfl⟩ := he
      have := hρ x _ hx
      have h2 := this
      simp only [VRel] at this
      obtain ⟨xs, ys, e, _⟩ := this
      rw [e] at h2 ⊢
      exact OpOk.still hi h2
    · cases he
  · rename_i op t x y ty ho
    simp only [ho]
    split at he
    · rename_i a b ha hb'
      cases hz : binA C.P op t a b with
      | none => simp [hz] at he
      | some z =>
        simp only [hz, Option.map_some, Option.some.injEq, Prod.mk.injEq] at he
        obtain ⟨rfl, rfl, rfl⟩ := he
        obtain ⟨r, k1, k2⟩ := binA_ok (P := C.P) (w := w) hz (hρ x _ ha) (hρ y _ hb')
        have k0 := eqGuard_run (P := C.P) (w := w) op t x y hz (hρ x _ ha) (v := ρc y)
        simp only [Sem.run_bind, Result.andThen_ok, k0, k1, Sem.run_pure]
        exact OpOk.still hi k2
    · cases he
  · rename_i op t x ho
    simp only [ho]
    split at he
    · rename_i a ha
      cases hz : unA op a with
      | none => simp [hz] at he
      | some z =>
        simp only [hz, Option.map_some, Option.some.injEq, Prod.mk.injEq] at he
        obtain ⟨rfl, rfl, rfl⟩ := he
        obtain ⟨r, k1, k2⟩ := unA_ok (P := C.P) (w := w) hz (hρ x _ ha)
        simp only [Sem.run_bind, Result.andThen_ok, k1, Sem.run_pure]
        exact OpOk.still hi k2
    · cases he
  · rename_i s t x ho
    simp only [ho]
    split at he
    · rename_i a ha
      cases hz : convA C.P s t h a with
      | none => simp [hz] at he
      | some q =>
        obtain ⟨z, h1⟩ := q
        simp only [hz, Option.map_some, Option.some.injEq, Prod.mk.injEq] at he
        obtain ⟨rfl, rfl, rfl⟩ := he
        obtain ⟨r, w', m', k1, k2, k3⟩ := convA_ok (P := C.P) hi hz (hρ x _ ha)
        simp only [Sem.run_bind, Result.andThen_ok, k1, Sem.run_pure]
        have hgrow : h1 = h ∨ ∃ o, h1 = h ++ [o] := convA_heap hz
        refine ⟨⟨m', k2, k3⟩, ?_, fun e => ⟨e, fun i hi' => ?_⟩⟩
        · rcases hgrow with rfl | ⟨o, rfl⟩ <;> simp
        · rcases hgrow with rfl | ⟨o, rfl⟩
          · rfl
          · rw [List.getElem?_append_left (by omega)]
    · cases he
  · rename_i t x ho
    simp only [ho]
    split at he
    · cases he
    · rename_i a dd hni ha hdd
      simp only [Option.some.injEq, Prod.mk.injEq] at he
      obtain ⟨rfl, rfl, rfl⟩ := he
      have hrun : (Instr.makeInterface t (ρc x)).run C.P w = .ok (.iface t (ρc x)) w := by
        cases dd <;> first | (exact (hni _ rfl).elim) | (simp [Instr.makeInterface, run_underlying hdd])
      simp only [Sem.run_bind, Result.andThen_ok, hrun, Sem.run_pure]
      exact OpOk.still hi (by simp only [VRel]; exact ⟨_, rfl, hρ x _ ha⟩)
    · cases he
  · rename_i fn first captured ho
    simp only [ho]
    split at he
    · rename_i a b ha hb'
      simp only [Option.some.injEq, Prod.mk.injEq] at he
      obtain ⟨rfl, rfl, rfl⟩ := he
      simp only [Instr.makeFunc, Sem.run_bind, Result.andThen_ok, Sem.run_pure]
      refine OpOk.still hi ?_
      simp only [VRel]
      exact ⟨_, _, rfl, by simpa using mapM_rel hρ _ _ ha, by simpa using mapM_rel hρ _ _ hb'⟩
    · cases he
  · rename_i t l c ho
    simp only [ho]
    split at he
    · rename_i a b ha hb'
      cases hz : makeSliceA C.P t h a b with
      | none => simp [hz] at he
      | some q =>
        obtain ⟨z, h1⟩ := q
        simp only [hz, Option.map_some, Option.some.injEq, Prod.mk.injEq] at he
        obtain ⟨rfl, rfl, rfl⟩ := he
        obtain ⟨r, w', m', k1, k2, k3, ob, rfl⟩ := makeSliceA_ok (P := C.P) hi hz (hρ l _ ha) (hρ c _ hb')
        simp only [Sem.run_bind, Result.andThen_ok, k1, Sem.run_pure]
        exact ⟨⟨m', k2, k3⟩, by simp, fun e => ⟨e, fun i hi' => by rw [List.getElem?_append_left (by omega)]⟩⟩
    · cases he
  · rename_i t x lo hi' mx ho
    simp only [ho]
    split at he
    · rename_i a l1 h1 m1 ha hl hh hm
      cases hz : sliceA C.P t a l1 h1 m1 with
      | none => simp [hz] at he
      | some z =>
        simp only [hz, Option.map_some, Option.some.injEq, Prod.mk.injEq] at he
        obtain ⟨rfl, rfl, rfl⟩ := he
        obtain ⟨r, k1, k2⟩ := sliceA_ok (P := C.P) (w := w) hz (hρ x _ ha) (mapM_opt hρ hl) (mapM_opt hρ hh) (mapM_opt hρ hm)
        simp only [Sem.run_bind, Result.andThen_ok, k1, Sem.run_pure]
        exact OpOk.still hi k2
    · cases he
  · rename_i t x f ho
    simp only [ho]
    split at he
    · rename_i a ha
      cases hz : fieldAddrA C.P t a f with
      | none => simp [hz] at he
      | some z =>
        simp only [hz, Option.map_some, Option.some.injEq, Prod.mk.injEq] at he
        obtain ⟨rfl, rfl, rfl⟩ := he
        obtain ⟨r, k1, k2⟩ := fieldAddrA_ok (P := C.P) (w := w) hz (hρ x _ ha)
        simp only [Sem.run_bind, Result.andThen_ok, k1, Sem.run_pure]
        exact OpOk.still hi k2
    · cases he
  · rename_i t x f ho
    simp only [ho]
    split at he
    · rename_i a ha
      cases hz : fieldA C.P t a f with
      | none => simp [hz] at he
      | some z =>
        simp only [hz, Option.map_some, Option.some.injEq, Prod.mk.injEq] at he
        obtain ⟨rfl, rfl, rfl⟩ := he
        obtain ⟨r, k1, k2⟩ := fieldA_ok (P := C.P) (w := w) hz (hρ x _ ha)
        simp only [Sem.run_bind, Result.andThen_ok, k1, Sem.run_pure]
        exact OpOk.still hi k2
    · cases he
  · rename_i t x ix ho
    simp only [ho]
    split at he
    · rename_i a b ha hb'
      cases hz : indexAddrA C.P t a b with
      | none => simp [hz] at he
      | some z =>
        simp only [hz, Option.map_some, Option.some.injEq, Prod.mk.injEq] at he
        obtain ⟨rfl, rfl, rfl⟩ := he
        obtain ⟨r, k1, k2⟩ := indexAddrA_ok (P := C.P) (w := w) hz (hρ x _ ha) (hρ ix _ hb')
        simp only [Sem.run_bind, Result.andThen_ok, k1, Sem.run_pure]
        exact OpOk.still hi k2
    · cases he
  · rename_i t x ix ho
    simp only [ho]
    split at he
    · rename_i a b ha hb'
      cases hz : indexA C.P t a b with
      | none => simp [hz] at he
      | some z =>
        simp only [hz, Option.map_some, Option.some.injEq, Prod.mk.injEq] at he
        obtain ⟨rfl, rfl, rfl⟩ := he
        obtain ⟨r, k1, k2⟩ := indexA_ok (P := C.P) (w := w) hz (hρ x _ ha) (hρ ix _ hb')
        simp only [Sem.run_bind, Result.andThen_ok, k1, Sem.run_pure]
        exact OpOk.still hi k2
    · cases he
  · rename_i t i ho
    simp only [ho]
    split at he
    · rename_i vs ha
      cases hz : vs[i]? with
      | none => simp [hz] at he
      | some z =>
        simp only [hz, Option.map_some, Option.some.injEq, Prod.mk.injEq] at he
        obtain ⟨rfl, rfl, rfl⟩ := he
        have hx := hρ t _ ha
        simp only [VRel] at hx
        obtain ⟨us, e, hr⟩ := hx
        obtain ⟨u, hu, hv⟩ := hr.get hz
        have hu' : us[i]? = some u := by simpa using hu
        simp only [e, Instr.extract, hu', Sem.run_bind, Result.andThen_ok, Sem.run_pure]
        exact OpOk.still hi hv
    · cases he
  · rename_i c ho
    simp only [ho]
    split at he
    · rename_i vs hvs
      have hargs : VRelL m vs (c.args.map ρc).toList := by simpa using mapM_rel hρ _ _ hvs
      split at he
      · rename_i b hcb
        simp only [resolve, hcb, Sem.run_bind, Sem.run_pure, Result.andThen_ok, invoke, builtin]
        split at he
        · rename_i bb ats vs0 t trest x rest hats
          cases hz : lenA C.P t x with
          | none => simp [hz] at he
          | some z =>
            simp only [hz, Option.map_some, Option.some.injEq, Prod.mk.injEq] at he
            obtain ⟨rfl, rfl, rfl⟩ := he
            obtain ⟨u, hu, hx⟩ := hargs.get (i := 0) (x := x) (by simp)
            have ht : c.argTypes[0]? = some t := by rw [← Array.getElem?_toList, hats]; rfl
            obtain ⟨r, k1, k2⟩ := lenA_ok (P := C.P) (w := w) (ty := o.type) ht hz (us := c.args.map ρc) (by rw [← Array.getElem?_toList]; exact hu) hx
            simp only [Sem.run_bind, k1, Result.andThen_ok, Sem.run_pure]
            exact OpOk.still hi k2
        · obtain ⟨z, hz, he⟩ := Option.map_eq_some_iff.1 he
          · simp only [Prod.mk.injEq] at he
            obtain ⟨rfl, rfl, rfl⟩ := he
            obtain ⟨r, k1, k2⟩ := minsA_ok (P := C.P) (w := w) (ts := c.argTypes) (ty := o.type) true hz hargs
            simp only [if_true] at k1
            simp only [Sem.run_bind, k1, Result.andThen_ok, Sem.run_pure]
            exact OpOk.still hi k2
        · obtain ⟨z, hz, he⟩ := Option.map_eq_some_iff.1 he
          · simp only [Prod.mk.injEq] at he
            obtain ⟨rfl, rfl, rfl⟩ := he
            obtain ⟨r, k1, k2⟩ := minsA_ok (P := C.P) (w := w) (ts := c.argTypes) (ty := o.type) false hz hargs
            simp only [if_false, Bool.false_eq_true] at k1
            simp only [Sem.run_bind, k1, Result.andThen_ok, Sem.run_pure]
            exact OpOk.still hi k2
        · rename_i ts x y
          cases hz : appendA C.P c.argTypes.toList h x y with
          | none => simp [hz] at he
          | some q =>
            obtain ⟨z, h1, wr⟩ := q
            simp only [hz, Option.map_some, Option.some.injEq, Prod.mk.injEq] at he
            obtain ⟨rfl, rfl, rfl⟩ := he
            simp only [VRelL] at hargs
            obtain ⟨u, us, e1, hx, v', vs', e2, hy, e3⟩ := hargs
            have hca : c.args.map ρc = #[u, v'] := by apply Array.ext'; rw [e1, e2, e3]
            obtain ⟨⟨r, w', m', k1, k2, k3⟩, k4, k5⟩ := appendA_ok (P := C.P) hi (ty := o.type) hz hx hy
            rw [hca]
            simp only [Sem.run_bind, k1, Result.andThen_ok, Sem.run_pure]
            refine ⟨⟨m', k2, k3⟩, k5, fun e => ?_⟩
            simp only [Bool.or_eq_false_iff] at e
            exact ⟨e.1, append_dirty hb k4 e.2⟩
        · cases he
      · rename_i f hcb
        split at he
        · rename_i g first captured hf
          have hx := hρ f _ hf
          simp only [VRel] at hx
          obtain ⟨xs, ys, e, h1, h2⟩ := hx
          simp only [resolve, hcb, e, Deferred.ofValue, Sem.run_bind, Sem.run_pure, Result.andThen_ok, invoke]
          have hall : VRelL m (first ++ vs ++ captured) (xs ++ c.args.map ρc ++ ys).toList := by
            simp only [Array.toList_append]
            exact (h1.append hargs).append h2
          obtain ⟨k1, k2, k3⟩ := callF_ok hC hcall he hi hall
          exact ⟨k1, k2, fun e => ⟨(k3 e).1, fun i hi' => (k3 e).2 i (by omega)⟩⟩
        · cases he
      · cases he
    · cases he
  · cases he

/-- A frame of the model lies as the evaluator's state says. -/
structure StRel (m : M) (st : St) (a : Act) (w : World) : Prop where
  inv : Inv m st.h w
  fr : VRelL m st.fr a.tmps.toList
  defers : a.defers = []

theorem StRel.eval {m : M} {st : St} {a : Act} {w : World} (h : StRel m st a w) : ∀ x v, evalOperand st.fr x = some v → VRel m v (a.eval x) := by
  intro x v hx
  cases x with
  | tmp t =>
    simp only [evalOperand] at hx
    obtain ⟨u, hu, hv⟩ := h.fr.get hx
    have hu' : a.tmps[t]? = some u := by simpa using hu
    simp only [Act.eval, Array.getD_eq_getD_getElem?, hu', Option.getD_some]
    exact hv
  | const c => exact ofConst_rel hx
  | global g => cases hx
  | func f =>
    simp only [evalOperand, Option.some.injEq] at hx
    subst hx
    simp only [Act.eval, VRel]
    exact ⟨#[], #[], rfl, .nil, .nil⟩

theorem StRel.put {m : M} {st : St} {a : Act} {w : World} {v : AV} {u : Value} (h : StRel m st a w) (hv : VRel m v u) (dst : Option Tmp) : StRel m (st.put dst v) (a.put dst u) w := by
  cases dst with
  | none => exact h
  | some t =>
    refine ⟨h.inv, ?_, h.defers⟩
    simp only [St.put, Act.put, Array.toList_setIfInBounds]
    exact h.fr.set hv t

theorem yielded_rel {m : M} {st : St} {a : Act} {w : World} (h : StRel m st a w) (ops : Array Oper) (o : Oper) (hw : Region.wanted o (yieldedA ops st.fr) = true) : Region.wanted o (yielded ops a.tmps) = true := by
  unfold Region.wanted at hw ⊢
  cases hg : o.guard with
  | none => rfl
  | some p =>
    obtain ⟨j, want⟩ := p
    simp only [hg, beq_iff_eq] at hw ⊢
    unfold yieldedA at hw
    unfold yielded
    cases hd : ((ops[j]?).bind (·.dst)) with
    | none => simp [hd] at hw
    | some t =>
      simp only [hd, Option.bind_some] at hw ⊢
      split at hw
      · rename_i b hb
        obtain ⟨u, hu, hv⟩ := h.fr.get hb
        have hu' : a.tmps[t]? = some u := by simpa using hu
        rw [hu', hv.bool']
        exact hw
      · cases hw

/-- Slots that hold a test's answer hold it in both. -/
theorem yielded_eq {m : M} {st : St} {a : Act} {w : World} (h : StRel m st a w) (ops : Array Oper) (j : Nat) : yielded ops a.tmps j = yieldedA ops st.fr j := by
  unfold yieldedA yielded
  cases hd : ((ops[j]?).bind (·.dst)) with
  | none => simp
  | some t =>
    simp only [Option.bind_some]
    cases hx : st.fr[t]? with
    | none =>
      have hl := h.fr.length
      have : a.tmps[t]? = none := by
        rw [List.getElem?_eq_none_iff] at hx
        apply Array.getElem?_eq_none
        simp at hl
        omega
      rw [this]
    | some x =>
      obtain ⟨u, hu, hv⟩ := h.fr.get hx
      have hu' : a.tmps[t]? = some u := by simpa using hu
      rw [hu']
      cases x with
      | bool b => rw [hv.bool']
      | list xs nn cap tok => simp only [VRel] at hv; rcases hv with ⟨_, _, _, _, rfl⟩ | ⟨_, _, _, _, rfl, _⟩ <;> rfl
      | _ =>
        simp only [VRel] at hv
        first
          | (subst hv; rfl)
          | (obtain ⟨_, rfl, _⟩ := hv; rfl)
          | (obtain ⟨_, _, rfl⟩ := hv; rfl)
          | (obtain ⟨_, _, rfl, _⟩ := hv; rfl)
          | (obtain ⟨_, rfl⟩ := hv; rfl)
theorem wanted_eq {m : M} {st : St} {a : Act} {w : World} (h : StRel m st a w) (ops : Array Oper) (o : Oper) : Region.wanted o (yielded ops a.tmps) = Region.wanted o (yieldedA ops st.fr) := by
  have : yielded ops a.tmps = yieldedA ops st.fr := funext fun j => yielded_eq h ops j
  rw [this]

/-- From one state of a frame to a later one. -/
structure StStep (base B : Nat) (m : M) (st : St) (w : World) (m' : M) (st' : St) (a' : Act) (w' : World) : Prop where
  rel : StRel m' st' a' w'
  step : Step B m st.h w m' st'.h w'
  len : st.h.length ≤ st'.h.length
  clean : st'.d = false → st.d = false ∧ ∀ i, i < base → st'.h[i]? = st.h[i]?

theorem StStep.trans {base B : Nat} {m m1 m2 : M} {st st1 st2 : St} {a1 a2 : Act} {w w1 w2 : World} (s : StStep base B m st w m1 st1 a1 w1) (t : StStep base B m1 st1 w1 m2 st2 a2 w2) : StStep base B m st w m2 st2 a2 w2 :=
  ⟨t.rel, s.step.trans t.step, Nat.le_trans s.len t.len, fun e => ⟨(s.clean (t.clean e).1).1, fun i hi => ((t.clean e).2 i hi).trans ((s.clean (t.clean e).1).2 i hi)⟩⟩

theorem stepOp_ok {C : Cfg} (hC : CfgOk C) {call : CallFn} (hcall : CallSpec C.P call) {base B : Nat} {ops : Array Oper} {o : Oper} {st st' : St} (he : stepOp C call base ops o st = some st')
    {m : M} {a : Act} {w : World} (h : StRel m st a w) (hb : base ≤ st.h.length) (hB : B ≤ w.heap.size) {K : Act → World → Prop} {Q : Exit → Act → World → Prop}
    (hk : ∀ m' a' w', StStep base B m st w m' st' a' w' → K a' w') :
    if Region.wanted o (yielded ops a.tmps) then o.wp C.P a w K Q else K (a.put o.dst undef) w := by
  rw [wanted_eq h]
  unfold stepOp at he
  split at he
  · rename_i hw
    rw [if_pos hw]
    split at he
    · rename_i v h1 d1 hev
      simp only [Option.some.injEq] at he
      subst he
      obtain ⟨k1, k2, k3⟩ := evalOp_ok hC hcall hev h.inv hb h.eval
      refine k1.wp ?_
      rintro u w' ⟨m', s, hv⟩
      refine hk m' _ _ ⟨?_, ?_, ?_, ?_⟩
      · have : StRel m' ⟨st.fr, h1, d1⟩ a w' := ⟨s.inv, VRelL.mono s.le _ _ h.fr, h.defers⟩
        exact this.put hv o.dst
      · have := s.mono hB
        cases o.dst <;> exact this
      · cases o.dst <;> exact k2
      · intro e
        have e' : d1 = false := by cases hd : o.dst <;> simpa [St.put, hd] using e
        obtain ⟨c1, c2⟩ := k3 e'
        refine ⟨c1, fun i hi => ?_⟩
        have := c2 i hi
        cases hd : o.dst <;> simpa [St.put, hd] using this
    · cases he
  · rename_i hw
    rw [if_neg hw]
    simp only [Option.some.injEq] at he
    subst he
    refine hk m _ _ ⟨h.put VRel.undef o.dst, ?_, ?_, ?_⟩
    · have := Step.refl (B := B) h.inv
      cases hd : o.dst <;> simpa [St.put, hd] using this
    · cases o.dst <;> exact Nat.le_refl _
    · intro e
      cases hd : o.dst <;> (simp only [St.put, hd] at e ⊢; refine ⟨e, ?_⟩; intros; first | rfl | trivial)

end Go.Proofs.Ytnifldbmflkmpaa.Ev
