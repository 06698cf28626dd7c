/-
  What each operation does to values that lie as the abstract ones say: operations that leave memory alone.
-/
import Derived.Test.YtnifldbmflkmpaaEvC
import Derived.Laws.Entries
import Derived.ChangeKeysEq
namespace Go.Proofs.Ytnifldbmflkmpaa.Ev
open Go
set_option linter.unusedVariables false
set_option linter.unusedSimpArgs false

theorem VRel.int' {m : M} {k : IntKind} {n : Int} {v : Value} (h : VRel m (.int k n) v) : v = .int k n := by simpa only [VRel] using h
theorem VRel.bool' {m : M} {b : Bool} {v : Value} (h : VRel m (.bool b) v) : v = .bool b := by simpa only [VRel] using h
theorem VRel.mkint {m : M} (k : IntKind) (n : Int) : VRel m (.int k n) (.int k n) := by simp only [VRel]
theorem VRel.mkbool {m : M} (b : Bool) : VRel m (.bool b) (.bool b) := by simp only [VRel]
theorem VRel.undef {m : M} : VRel m .undef undef := by simp only [AV.undef, Go.undef, VRel]; exact ⟨#[], rfl, VRelL.nil⟩
theorem VRel.mkstr {m : M} (b : ByteArray) : VRel m (.str b.data.toList) (.string b) := by simp only [VRel]; exact ⟨b, rfl, rfl⟩

/-- Optional operands. -/
def ORel (m : M) : Option AV → Option Value → Prop
  | none, none => True
  | some x, some v => VRel m x v
  | _, _ => False

theorem tySize_spec {P : Program} {t : TypeId} {n : Nat} (h : tySize P t = some n) : ∃ i, P.info? t = some i ∧ i.size = n := by
  unfold tySize at h
  cases hi : P.info? t with
  | none => simp [hi] at h
  | some i => simp [hi] at h; exact ⟨i, rfl, h⟩
theorem run_sizeOf' {P : Program} {t : TypeId} {n : Nat} (h : tySize P t = some n) (w : World) : (sizeOf t).run P w = .ok n w := by
  obtain ⟨i, hi, rfl⟩ := tySize_spec h
  simp [sizeOf, typeInfo, hi]
theorem run_isAgg_true {P : Program} {t : TypeId} (h : tyAgg P t = true) (w : World) : (isAgg t).run P w = .ok true w := by
  unfold tyAgg at h
  cases hu : P.underlying t with
  | none => simp [hu] at h
  | some d => simp only [hu] at h; unfold isAgg; rw [Sem.run_bind, run_underlying hu w]; cases d <;> simp_all
theorem run_isAgg_false {P : Program} {t : TypeId} (h : tyScalar P t = true) (w : World) : (isAgg t).run P w = .ok false w := by
  unfold tyScalar at h
  cases hu : P.underlying t with
  | none => simp [hu] at h
  | some d => simp only [hu] at h; unfold isAgg; rw [Sem.run_bind, run_underlying hu w]; cases d <;> simp_all

/-- A list that holds a cell has room, so its address is plain. -/
theorem spot_of {m : M} {xs : List AV} {cvs : List Value} {a : Addr} {cap' j : Nat} {v : Value} (g2 : cap' ≠ 0 → a.spot = none) (g3 : xs.length ≤ cap') (g4 : VRelL m xs cvs) (hv : (cvs.flatMap VCells)[j]? = some v) : a.spot = none := by
  refine g2 fun h0 => ?_
  have hl := g4.length
  have : cvs = [] := List.eq_nil_of_length_eq_zero (by omega)
  subst this
  simp at hv
theorem Addr.add_none (a : Addr) (h : a.spot = none) (n : Nat) : a.add n = ⟨a.block, a.off + n, none⟩ := by
  obtain ⟨b, o, s⟩ := a
  simp only at h
  subst h
  exact Addr.add_mid b o n

theorem list_toArray_get {l : List Value} {a : Array Value} (h : a.toList = l) (i : Nat) : a[i]? = l[i]? := by subst h; simp

/-- A part of an aggregate. -/
theorem partA_ok {P : Program} {m : M} {t : TypeId} {cs : List AV} {off : Nat} {x : AV} (he : partA P t cs off = some x) {cvs : Array Value} (hr : VRelL m cs cvs.toList) (w : World) :
    ∃ cv, (part t cvs off).run P w = .ok cv w ∧ VRel m x cv := by
  unfold partA at he
  split at he
  · rename_i hagg
    split at he
    · rename_i n hn
      split at he
      · rename_i hle
        simp only [Option.some.injEq] at he
        subst he
        refine ⟨.agg (cvs.extract off (off + n)), ?_, ?_⟩
        · simp [part, run_isAgg_true hagg, run_sizeOf' hn]
        · simp only [VRel]
          refine ⟨_, rfl, ?_⟩
          have : (cvs.extract off (off + n)).toList = (cvs.toList.drop off).take n := by simp [Array.toList_extract, List.extract_eq_take_drop]
          rw [this]
          exact (hr.drop off).take n
      · cases he
    · cases he
  · split at he
    · rename_i hsc
      split at he
      · rename_i y hy
        split at he
        · simp only [Option.some.injEq] at he
          subst he
          obtain ⟨v, hv, hx⟩ := hr.get hy
          refine ⟨v, ?_, hx⟩
          have hv' : cvs[off]? = some v := by simpa using hv
          simp [part, run_isAgg_false hsc, hv']
        · cases he
      · cases he
    · cases he

theorem VRel.one {m : M} {x : AV} {v : Value} (h : VRel m x v) (h1 : x.one = true) : VCells v = [v] ∧ v.oneCell' = true := by
  cases x <;> simp only [AV.one] at h1 <;> simp only [VRel] at h <;> first
    | (cases h1; done)
    | (subst h; exact ⟨rfl, rfl⟩)
    | (obtain ⟨_, rfl, _⟩ := h; exact ⟨rfl, rfl⟩)
    | (obtain ⟨_, _, rfl⟩ := h; exact ⟨rfl, rfl⟩)
    | (obtain ⟨_, _, rfl, _⟩ := h; exact ⟨rfl, rfl⟩)
    | (rcases h with ⟨_, _, _, _, rfl⟩ | ⟨_, _, _, _, rfl, _⟩ <;> exact ⟨rfl, rfl⟩)

/-- Where a part lies. -/
theorem partA_mem {P : Program} {m : M} {t : TypeId} {cs : List AV} {off : Nat} {x : AV} (he : partA P t cs off = some x) {l : List Value} (hr : VRelL m cs l) :
    ∃ cv n, VRel m x cv ∧ VCells cv = (l.drop off).take n := by
  unfold partA at he
  split at he
  · split at he
    · rename_i n hn
      split at he
      · simp only [Option.some.injEq] at he
        subst he
        refine ⟨.agg ((l.drop off).take n).toArray, n, ?_, by simp [VCells, Value.cells]⟩
        simp only [VRel]
        exact ⟨_, rfl, by simpa using (hr.drop off).take n⟩
      · cases he
    · cases he
  · split at he
    · split at he
      · rename_i y hy
        split at he
        · rename_i h1
          simp only [Option.some.injEq] at he
          subst he
          obtain ⟨v, hv, hx⟩ := hr.get hy
          refine ⟨v, 1, hx, ?_⟩
          rw [(hx.one h1).1]
          rw [List.getElem?_eq_some_iff] at hv
          obtain ⟨hl, rfl⟩ := hv
          rw [List.drop_eq_getElem_cons hl, List.take_succ_cons, List.take_zero]
        · cases he
      · cases he
    · cases he

theorem flatMap_take {s : Nat} : ∀ (l : List Value) (h : Nat), (∀ v ∈ l, (VCells v).length = s) → (l.take h).flatMap VCells = (l.flatMap VCells).take (h * s)
  | [], h, _ => by simp
  | v :: l, 0, _ => by simp
  | v :: l, h + 1, hs => by
    have h1 := hs v (by simp)
    simp only [List.take_succ_cons, List.flatMap_cons]
    rw [flatMap_take l h (fun u hu => hs u (by simp [hu]))]
    have e1 : (h + 1) * s = (VCells v).length + h * s := by rw [h1, Nat.add_mul]; omega
    rw [e1, List.take_length_add_append]
theorem flatMap_drop {s : Nat} : ∀ (l : List Value) (h : Nat), (∀ v ∈ l, (VCells v).length = s) → (l.drop h).flatMap VCells = (l.flatMap VCells).drop (h * s)
  | [], h, _ => by simp
  | v :: l, 0, _ => by simp
  | v :: l, h + 1, hs => by
    have h1 := hs v (by simp)
    simp only [List.drop_succ_cons, List.flatMap_cons]
    rw [flatMap_drop l h (fun u hu => hs u (by simp [hu]))]
    have e1 : (h + 1) * s = (VCells v).length + h * s := by rw [h1, Nat.add_mul]; omega
    rw [e1, List.drop_length_add_append]
theorem flatMap_length {s : Nat} : ∀ (l : List Value), (∀ v ∈ l, (VCells v).length = s) → (l.flatMap VCells).length = l.length * s
  | [], _ => by simp
  | v :: l, hs => by
    simp only [List.flatMap_cons, List.length_append, List.length_cons, hs v (by simp), flatMap_length l (fun u hu => hs u (by simp [hu])), Nat.add_mul]
    omega

theorem CellsF.drop {F : Addr → Option Value} {a : Addr} {l : List Value} (h : CellsF F a l) (n : Nat) : CellsF F ⟨a.block, a.off + n, none⟩ (l.drop n) := by
  intro i v hv
  have := h (n + i) v (by simpa using hv)
  simpa [Nat.add_assoc] using this
theorem CellsF.take {F : Addr → Option Value} {a : Addr} {l : List Value} (h : CellsF F a l) (n : Nat) : CellsF F a (l.take n) := by
  intro i v hv
  rw [List.getElem?_take] at hv
  split at hv
  · exact h i v hv
  · cases hv
theorem CellsF.left {F : Addr → Option Value} {a : Addr} {l k : List Value} (h : CellsF F a (l ++ k)) : CellsF F a l := by
  have := h.take l.length
  rwa [List.take_left] at this

/-- The cells of one element. -/
theorem CellsF.elem {F : Addr → Option Value} {a : Addr} {l : List Value} {s i : Nat} {v : Value} (h : CellsF F a (l.flatMap VCells)) (hs : ∀ v ∈ l, (VCells v).length = s) (hi : l[i]? = some v) :
    CellsF F ⟨a.block, a.off + i * s, none⟩ (VCells v) := by
  have h1 := h.drop (i * s)
  rw [← flatMap_drop l i hs] at h1
  have h2 : l.drop i = v :: l.drop (i + 1) := by
    rw [List.getElem?_eq_some_iff] at hi
    obtain ⟨hl, rfl⟩ := hi
    exact List.drop_eq_getElem_cons hl
  rw [h2] at h1
  simp only [List.flatMap_cons] at h1
  exact h1.left

theorem VCells_length {m : M} {x : AV} {v : Value} (h : VRel m x v) : (VCells v).length = x.cells.length := by
  have := h.cells.length; exact this

theorem headOk_spec {m : M} {xs : List AV} {cvs : List Value} {s n : Nat} (hr : VRelL m xs cvs) (hs : ∀ v ∈ cvs, (VCells v).length = s) (h : headOk n xs = true) : xs = [] ∨ s = n := by
  cases xs with
  | nil => exact .inl rfl
  | cons x xs =>
    simp only [VRelL] at hr
    obtain ⟨v, vs, rfl, h1, _⟩ := hr
    simp only [headOk, beq_iff_eq] at h
    have := hs v (by simp)
    rw [VCells_length h1] at this
    exact .inr (by omega)

/-- What may be loaded. -/
theorem run_loadVar_F {P : Program} {m : M} {w : World} {t : TypeId} {h : Heap} {x y : AV} (hi : ∀ a v, m.F a = some v → w.cell? a = some v) (he : loadA P t h (.rptr x) = some y) {a : Addr} {cv : Value} (ha : a.spot = none)
    (hr : VRel m x cv) (hc : CellsF m.F a (VCells cv)) : ∃ u, (loadVar t a).run P w = .ok u w ∧ VRel m y u := by
  obtain ⟨b, o, sp⟩ := a
  simp only at ha
  subst ha
  have one : ∀ u, VCells cv = [u] → w.cell? ⟨b, o, none⟩ = some u := fun u hu => hi _ _ (by have := hc 0 u (by simp [hu]); simpa using this)
  have scalar : tyScalar P t = true → VCells cv = [cv] → ∃ u, (loadVar t ⟨b, o, none⟩).run P w = .ok u w ∧ VRel m x u := by
    intro hsc h1
    exact ⟨cv, by simp [loadVar, run_isAgg_false hsc, one cv h1], hr⟩
  cases x <;> simp only [loadA] at he
  case agg cs =>
    split at he
    · rename_i hcond
      simp only [Bool.and_eq_true, beq_iff_eq] at hcond
      simp only [Option.some.injEq] at he
      subst he
      simp only [VRel] at hr
      obtain ⟨cvs, rfl, hr⟩ := hr
      have hl := hr.length
      have hld : (loadCells ⟨b, o, none⟩ cvs.toList.length).run P w = .ok cvs.toList.toArray w :=
        run_loadCells_list (P := P) w ⟨b, o, none⟩ cvs.toList (fun j v hv => by rw [Addr.add_mid]; exact hi _ _ (hc j v hv))
      refine ⟨.agg cvs, ?_, by simp only [VRel]; exact ⟨cvs, rfl, hr⟩⟩
      rw [hl] at hld
      simp [loadVar, run_isAgg_true hcond.1, run_sizeOf' hcond.2, hld]
    · cases he
  case tuple => cases he
  all_goals
    split at he
    · rename_i hsc
      simp only [Option.some.injEq] at he
      subst he
      refine scalar hsc ?_
      simp only [VRel] at hr
      first
        | (subst hr; rfl)
        | (obtain ⟨_, rfl, _⟩ := hr; rfl)
        | (obtain ⟨_, _, rfl⟩ := hr; rfl)
        | (obtain ⟨_, _, rfl, _⟩ := hr; rfl)
        | (obtain ⟨_, rfl⟩ := hr; rfl)
        | (rcases hr with ⟨_, _, _, _, rfl⟩ | ⟨_, _, _, _, rfl, _⟩ <;> rfl)
    · cases he

theorem cell_row {w : World} {c o : Nat} {cvs : Array Value} {t : TypeId} {fr : Nat × Nat} (h : w.heap[c]? = some (.cells cvs t fr)) : w.cell? ⟨c, o, none⟩ = cvs[o]? := cell_of_row w c o cvs t fr h

theorem run_loadVar_row' {P : Program} {m : M} {w : World} {t : TypeId} {cs : List AV} {o : Nat} {y : AV} (he : partA P t cs o = some y) {c : Nat} {cvs : Array Value} {u : TypeId} {fr : Nat × Nat}
    (hb : w.heap[c]? = some (.cells cvs u fr)) (hr : VRelL m cs cvs.toList) : ∃ v, (loadVar t ⟨c, o, none⟩).run P w = .ok v w ∧ VRel m y v := by
  unfold partA at he
  split at he
  · rename_i hagg
    split at he
    · rename_i n hn
      split at he
      · rename_i hle
        simp only [Option.some.injEq] at he
        subst he
        have hl := hr.length
        have hlen : ((cvs.toList.drop o).take n).length = n := by simp at hl ⊢; omega
        have hld := run_loadCells_list (P := P) w ⟨c, o, none⟩ ((cvs.toList.drop o).take n) (fun j v hv => by
          rw [Addr.add_mid, cell_row hb]
          rw [List.getElem?_take] at hv
          split at hv
          · simpa using hv
          · cases hv)
        rw [hlen] at hld
        refine ⟨.agg ((cvs.toList.drop o).take n).toArray, ?_, ?_⟩
        · simp [loadVar, run_isAgg_true hagg, run_sizeOf' hn, hld]
        · simp only [VRel]
          exact ⟨_, rfl, by simpa using (hr.drop o).take n⟩
      · cases he
    · cases he
  · split at he
    · rename_i hsc
      split at he
      · rename_i z hz
        split at he
        · simp only [Option.some.injEq] at he
          subst he
          obtain ⟨v, hv, hx⟩ := hr.get hz
          refine ⟨v, ?_, hx⟩
          have hv' : w.cell? ⟨c, o, none⟩ = some v := by rw [cell_row hb]; simpa using hv
          simp [loadVar, run_isAgg_false hsc, hv']
        · cases he
      · cases he
    · cases he

theorem loadA_ok {P : Program} {m : M} {h : Heap} {w : World} (hi : Inv m h w) {t : TypeId} {x y : AV} {v : Value} (hx : VRel m x v) (he : loadA P t h x = some y) :
    ∃ u, (Instr.loadAt t v).run P w = .ok u w ∧ VRel m y u := by
  cases x with
  | rptr x =>
    simp only [VRel] at hx
    obtain ⟨a, cv, rfl, ha, hr, hc⟩ := hx
    obtain ⟨u, h1, h2⟩ := run_loadVar_F (P := P) hi.f he ha hr hc
    exact ⟨u, by simp [Instr.loadAt, Instr.sureAddr, h1], h2⟩
  | ptr b o =>
    simp only [VRel] at hx
    obtain ⟨c, hm, rfl⟩ := hx
    simp only [loadA] at he
    split at he
    · rename_i cs hb
      obtain ⟨d, cvs, t', h1, h2, h3, _⟩ := hi.var b cs hb
      rw [hm] at h1
      cases h1
      obtain ⟨u, k1, k2⟩ := run_loadVar_row' (P := P) he h2 h3
      exact ⟨u, by simp [Instr.loadAt, Instr.sureAddr, k1], k2⟩
    · cases he
  | _ => simp only [loadA] at he; cases he

theorem intArith_run {P : Program} {w : World} (op : BinOp) (k : IntKind) (a b : Int) {y : AV} (he : wrapBin op k a b = some y) (t : TypeId) (h1 : op ≠ .shl) (h2 : op ≠ .shr) :
    ∃ v, (binOp op t (.int k a) (.int k b)).run P w = .ok v w ∧ ∀ m, VRel m y v := by
  cases op <;> simp only [wrapBin] at he <;> first
    | (cases he; done)
    | (exact (h1 rfl).elim)
    | (exact (h2 rfl).elim)
    | (split at he
       · cases he
       · rename_i hb
         simp only [Option.some.injEq] at he; subst he
         exact ⟨_, by simp [binOp, Op.intDiv, hb]; rfl, fun m => by simp only [VRel]⟩)
    | (simp only [Option.some.injEq] at he; subst he
       exact ⟨_, by simp [binOp, Op.intArith, Op.intCmp]; rfl, fun m => by simp only [VRel]⟩)

theorem shift_run {P : Program} {w : World} (op : BinOp) (k j : IntKind) (a b : Int) {y : AV} (he : shiftA op k a b = some y) (t : TypeId) :
    ∃ v, (binOp op t (.int k a) (.int j b)).run P w = .ok v w ∧ ∀ m, VRel m y v := by
  unfold shiftA at he
  split at he
  · cases he
  · rename_i hb
    cases op <;> simp only at he <;> first
      | (cases he; done)
      | (simp only [Option.some.injEq] at he; subst he
         exact ⟨_, by simp [binOp, Op.shift, hb]; rfl, fun m => by simp only [VRel]⟩)

end Go.Proofs.Ytnifldbmflkmpaa.Ev
