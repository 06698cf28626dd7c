/-
  From the readings of a row's arguments to abstract values, and from the evaluator's answer to what a row asks.
-/
import Derived.Test.YtnifldbmflkmpaaEvO
import Derived.Handed
import Derived.Below
import Derived.Carry
import Derived.ChangeSame
import Derived.Deep.Slices
import Derived.WideKeyArgs
import Derived.JoinedOf
namespace Go.Proofs.Ytnifldbmflkmpaa.Ev
open Go Go.RowKit Go.ChangeShapes Go.WideShapes
set_option linter.unusedVariables false
set_option linter.unusedSimpArgs false

/-- Memory as it stands: no cell will change that the call does not own. -/
def mOf (w : World) : M := ⟨fun a => match w.cell? a with | some v => if v.oneCell' then some v else none | none => none, fun _ => none, fun _ _ => none⟩

theorem mOf_cell {w : World} {a : Addr} {v : Value} (h : w.cell? a = some v) (h1 : v.oneCell' = true) : (mOf w).F a = some v := by
  simp [mOf, h, h1]

theorem inv_mOf (w : World) : Inv (mOf w) [] w where
  f := fun a v h => by
    simp only [mOf] at h
    split at h
    · rename_i x hx
      split at h
      · simp only [Option.some.injEq] at h; subst h; exact hx
      · cases h
    · cases h
  fone := fun a v h => by
    simp only [mOf] at h
    split at h
    · split at h
      · rename_i h1; simp only [Option.some.injEq] at h; subst h; exact h1
      · cases h
    · cases h
  var := fun i cs e => by simp at e
  inj := fun i j cs ds c e => by simp at e
  own := fun i n sz e => by simp at e
  apart := fun i j n k sz tz a b ca cb e => by simp at e
  mu := fun i c e => by simp [mOf] at e
  rho := fun i n r e => by simp [mOf] at e
  cur := fun i n k sz r e => by simp at e

def hasParts (h : TypeId → List AV → Prop) : List TypeId → List AV → Prop
  | [], xs => xs = []
  | t :: ts, xs => ∃ a b, xs = a ++ b ∧ h t a ∧ hasParts h ts b

def isOf (P : Program) (h : TypeId → List AV → Prop) (t : TypeId) (x : AV) : Prop :=
  (tyAgg P t = true ∧ ∃ cs, x = .agg cs ∧ h t cs) ∨ (tyAgg P t = false ∧ h t [x])

/-- The cells of a value of a type. -/
def has (P : Program) : Nat → TypeId → List AV → Prop
  | 0, _, _ => False
  | n + 1, t, xs =>
    match P.underlying t with
    | some .bool => ∃ b, xs = [.bool b]
    | some (.int k) => ∃ i, xs = [.int k i] ∧ (Lit.int k i).wf = true
    | some .string => ∃ s, xs = [.str s] ∧ s.length ≤ maxLen
    | some (.pointer e) => xs = [.nilp] ∨ ∃ y, xs = [.rptr y] ∧ isOf P (has P n) e y
    | some (.slice e) => ∃ ys, xs = [AV.L ys] ∧ ys.length ≤ maxLen ∧ ∀ y ∈ ys, isOf P (has P n) e y
    | some (.struct fs) => hasParts (has P n) (fs.toList.map (·.type)) xs
    | _ => False

def laidFrom (P : Program) : Nat → List Field → Option Nat
  | o, [] => some o
  | o, f :: fs => if f.offset = o then laidFrom P (o + P.cellsOf f.type) fs else none

def tyOk (P : Program) (ts : List TypeId) (t : TypeId) : Bool :=
  match P.underlying t with
  | some .bool | some (.int _) | some .string => true
  | some (.pointer e) => ts.contains e && decide (0 < P.cellsOf e)
  | some (.slice e) => ts.contains e && decide (0 < P.cellsOf e)
  | some (.struct fs) => (laidFrom P 0 fs.toList == some (P.cellsOf t)) && fs.toList.all (fun f => ts.contains f.type)
  | _ => false
def tysOk (P : Program) (ts : List TypeId) : Bool := ts.all (tyOk P ts)

theorem tysOk_at {P : Program} {ts : List TypeId} (h : tysOk P ts = true) {t : TypeId} (ht : t ∈ ts) : tyOk P ts t = true := List.all_eq_true.1 h t ht

/-- Cells of a value, put together. -/
theorem boxed {P : Program} {ts : List TypeId} (hts : tysOk P ts = true) {m : M} {n : Nat} {t : TypeId} (ht : t ∈ ts) {xs : List AV} {cs : List Value} (hh : has P n t xs) (hr : VRelL m xs cs) (h1 : ∀ v ∈ cs, v.oneCell' = true) :
    ∃ y cv, isOf P (has P n) t y ∧ VRel m y cv ∧ VCells cv = cs := by
  cases hagg : tyAgg P t with
  | true =>
    refine ⟨.agg xs, .agg cs.toArray, .inl ⟨hagg, xs, rfl, hh⟩, ?_, ?_⟩
    · simp only [VRel]; exact ⟨cs.toArray, rfl, hr⟩
    · simp [VCells, Value.cells]
  | false =>
    have hone : ∃ x, xs = [x] := by
      cases n with
      | zero => exact hh.elim
      | succ n =>
        simp only [has] at hh
        split at hh
        · obtain ⟨b, rfl⟩ := hh; exact ⟨_, rfl⟩
        · obtain ⟨b, rfl, _⟩ := hh; exact ⟨_, rfl⟩
        · obtain ⟨b, rfl, _⟩ := hh; exact ⟨_, rfl⟩
        · rcases hh with rfl | ⟨b, rfl, _⟩ <;> exact ⟨_, rfl⟩
        · obtain ⟨b, rfl, _⟩ := hh; exact ⟨_, rfl⟩
        · rename_i hu
          simp [tyAgg, hu] at hagg
        · exact hh.elim
    obtain ⟨x, rfl⟩ := hone
    simp only [VRelL] at hr
    obtain ⟨v, vs, rfl, hv, rfl⟩ := hr
    refine ⟨x, v, .inr ⟨hagg, hh⟩, hv, ?_⟩
    have := h1 v (by simp)
    cases v <;> first | rfl | (simp [Value.oneCell'] at this)

theorem cellsF_read {w : World} {base : Nat} {a : Addr} {n : Nat} {cs : List Value} (h : w.cells? base a n = some cs) (h1 : ∀ v ∈ cs, v.oneCell' = true) (h0 : 0 < n) : a.spot = none ∧ CellsF (mOf w).F a cs := by
  obtain ⟨_, hl, hc⟩ := World.cells?_some h
  have hs : a.spot = none := by
    have h2 := hc 0 h0
    rw [List.getElem?_eq_getElem (by omega)] at h2
    simp only [Addr.add, if_pos] at h2
    unfold World.cell? at h2
    split at h2
    · split at h2
      · cases h2
      · rename_i hn; cases hsp : a.spot <;> simp_all
    · cases h2
  refine ⟨hs, fun i v hv => ?_⟩
  have hi := (List.getElem?_eq_some_iff.1 hv).1
  have := hc i (by omega)
  rw [hv, Addr.add_none a hs] at this
  exact mOf_cell this (h1 v (List.mem_of_getElem? hv))

theorem CellsF.snoc {F : Addr → Option Value} {a : Addr} {l r : List Value} (h : CellsF F a l) (k : CellsF F ⟨a.block, a.off + l.length, none⟩ r) : CellsF F a (l ++ r) := by
  intro i v hv
  by_cases hi : i < l.length
  · rw [List.getElem?_append_left hi] at hv; exact h i v hv
  · rw [List.getElem?_append_right (by omega)] at hv
    have := k _ v hv
    simp only at this
    rwa [show a.off + l.length + (i - l.length) = a.off + i by omega] at this

/-- A reading gives abstract cells. -/
theorem trod_has {H : Type} {enc : TypeId × Value → H} {P : Program} {w : World} {base : Nat} {hd : Bool} {ts : List TypeId} (hts : tysOk P ts = true) :
    ∀ (fuel : Nat) (t : TypeId) (cs : List Value) (x : DataW H × List MemPlace), t ∈ ts → DataW.trod enc P w base (fun _ => true) hd fuel t cs = some x →
      ∃ xs, VRelL (mOf w) xs cs ∧ has P fuel t xs ∧ ∀ v ∈ cs, v.oneCell' = true
  | 0, t, cs, x, _, h => by simp [DataW.trod] at h
  | fuel + 1, t, cs, x, ht, h => by
    have hok := tysOk_at hts ht
    unfold tyOk at hok
    split at hok
    · rename_i hu
      obtain ⟨b, rfl, rfl⟩ := DataW.trod_bool hu h
      exact ⟨[.bool b], .cons (by simp only [VRel]) .nil, by simp only [has, hu]; exact ⟨b, rfl⟩, by simp [Value.oneCell']⟩
    · rename_i k hu
      obtain ⟨n, rfl, rfl, hw⟩ := DataW.trod_int hu h
      exact ⟨[.int k n], .cons (by simp only [VRel]) .nil, by simp only [has, hu]; exact ⟨n, rfl, hw⟩, by simp [Value.oneCell']⟩
    · rename_i hu
      obtain ⟨s, rfl, rfl, hs⟩ := DataW.trod_string hu h
      exact ⟨[.str s.data.toList], .cons (by simp only [VRel]; exact ⟨s, rfl, rfl⟩) .nil, by simp only [has, hu]; exact ⟨_, rfl, by simpa using hs⟩, by simp [Value.oneCell']⟩
    · rename_i e hu
      simp only [Bool.and_eq_true, List.contains_iff_mem, decide_eq_true_eq] at hok
      rcases DataW.trod_pointer hu h with ⟨rfl, rfl⟩ | ⟨a, cs', y, n, hf, rfl, rfl, hc, hy⟩
      · exact ⟨[.nilp], .cons (by simp only [VRel]) .nil, by simp [has, hu], by simp [Value.oneCell']⟩
      · obtain rfl : fuel = n := by omega
        obtain ⟨ys, k1, k2, k3⟩ := trod_has hts fuel e cs' y hok.1 hy
        obtain ⟨y', cv, q1, q2, q3⟩ := boxed hts hok.1 k2 k1 k3
        obtain ⟨hs, hF⟩ := cellsF_read hc k3 hok.2
        refine ⟨[.rptr y'], .cons ?_ .nil, by simp only [has, hu]; exact .inr ⟨y', rfl, q1⟩, by simp [Value.oneCell']⟩
        simp only [VRel]
        exact ⟨a, cv, rfl, hs, q2, by rw [q3]; exact hF⟩
    · rename_i e hu
      simp only [Bool.and_eq_true, List.contains_iff_mem, decide_eq_true_eq] at hok
      rcases DataW.trod_slice hu h with ⟨rfl, rfl⟩ | ⟨a, len, cap, elems, rest, n, hf, rfl, rfl, hb, hl, hm, hlen, hel, hsp, _⟩
      · refine ⟨[AV.L []], .cons ?_ .nil, by simp only [has, hu]; exact ⟨[], rfl, by simp, by simp⟩, by simp [Value.oneCell']⟩
        simp only [VRel]
        exact .inl ⟨by simp, by simp, by simp, by simp, by simp⟩
      · obtain rfl : fuel = n := by omega
        have hcap : ∀ i, i < cap → ∃ cs' z, w.cells? base (a.add (i * P.cellsOf e)) (P.cellsOf e) = some cs' ∧ DataW.trod enc P w base (fun _ => true) hd fuel e cs' = some z := by
          intro i hi
          by_cases hil : i < len
          · have := hel i hil
            rw [List.getElem?_eq_getElem (by omega)] at this
            obtain ⟨cs', h1, h2⟩ := Option.bind_eq_some_iff.1 this
            exact ⟨cs', _, h1, h2⟩
          · obtain ⟨hr, hrest⟩ := hsp rfl
            have := hrest (i - len) (by omega)
            rw [show len + (i - len) = i by omega, List.getElem?_eq_getElem (by omega)] at this
            obtain ⟨cs', h1, h2⟩ := Option.bind_eq_some_iff.1 this
            exact ⟨cs', _, h1, h2⟩
        have hspot : cap ≠ 0 → a.spot = none := fun h0 => by
          obtain ⟨cs', z, h1, h2⟩ := hcap 0 (by omega)
          obtain ⟨ys, k1, k2, k3⟩ := trod_has hts fuel e cs' z hok.1 h2
          rw [Nat.zero_mul] at h1
          exact (cellsF_read h1 k3 hok.2).1
        obtain ⟨f, hf⟩ := Deep.choose_lt (α := AV × Value) (n := len) (p := fun i p => isOf P (has P fuel) e p.1 ∧ VRel (mOf w) p.1 p.2 ∧ (VCells p.2).length = P.cellsOf e ∧ CellsF (mOf w).F ⟨a.block, a.off + i * P.cellsOf e, none⟩ (VCells p.2)) (fun i hi => by
          obtain ⟨cs', z, h1, h2⟩ := hcap i (by omega)
          obtain ⟨ys, k1, k2, k3⟩ := trod_has hts fuel e cs' z hok.1 h2
          obtain ⟨y', cv, q1, q2, q3⟩ := boxed hts hok.1 k2 k1 k3
          obtain ⟨_, hF⟩ := cellsF_read h1 k3 hok.2
          rw [Addr.add_none a (hspot (by omega))] at hF
          exact ⟨(y', cv), q1, q2, by rw [q3]; exact (World.cells?_some h1).2.1, by rw [q3]; exact hF⟩)
        refine ⟨[AV.L ((List.range len).map fun i => (f i).1)], .cons ?_ .nil, ?_, by simp [Value.oneCell']⟩
        · simp only [VRel]
          refine .inr ⟨a, cap, (List.range len).map fun i => (f i).2, P.cellsOf e, by simp, hspot, by simpa using hl, ?_, ?_, ?_, by simp, by simp⟩
          · apply VRelL.of_get (by simp)
            intro i x v hx hv
            have hi : i < len := by have := (List.getElem?_eq_some_iff.1 hx).1; simpa using this
            simp only [List.getElem?_map, List.getElem?_range hi, Option.map_some, Option.some.injEq] at hx hv
            subst hx; subst hv
            exact (hf i hi).2.1
          · intro cv hcv
            simp only [List.mem_map, List.mem_range] at hcv
            obtain ⟨i, hi, rfl⟩ := hcv
            exact (hf i hi).2.2.1
          · have key : ∀ k, k ≤ len → (((List.range k).map fun i => (f i).2).flatMap VCells).length = k * P.cellsOf e ∧ CellsF (mOf w).F a (((List.range k).map fun i => (f i).2).flatMap VCells) := by
              intro k
              induction k with
              | zero => intro _; exact ⟨by simp, by intro i v hv; simp at hv⟩
              | succ k ih =>
                intro hk
                obtain ⟨i1, i2⟩ := ih (by omega)
                have e1 := (hf k (by omega)).2.2.1
                have e2 := (hf k (by omega)).2.2.2
                rw [List.range_succ, List.map_append, List.flatMap_append]
                simp only [List.map_cons, List.map_nil, List.flatMap_cons, List.flatMap_nil, List.append_nil]
                exact ⟨by rw [List.length_append, i1, e1, Nat.succ_mul], i2.snoc (by rw [i1]; exact e2)⟩
            exact (key len (Nat.le_refl _)).2
        · simp only [has, hu]
          refine ⟨_, rfl, by simp; omega, fun y hy => ?_⟩
          simp only [List.mem_map, List.mem_range] at hy
          obtain ⟨i, hi, rfl⟩ := hy
          exact (hf i hi).1
    · rename_i fs hu
      simp only [Bool.and_eq_true, beq_iff_eq] at hok
      obtain ⟨hlaid, hall⟩ := hok
      obtain ⟨zs, n, hf, rfl, hcl, hzl, hz⟩ := DataW.trod_struct hu h
      obtain rfl : fuel = n := by omega
      have hz' : ∀ f ∈ fs.toList, ∃ z, DataW.trod enc P w base (fun _ => true) hd fuel f.type ((cs.drop f.offset).take (P.cellsOf f.type)) = some z := by
        intro f hf
        obtain ⟨i, hi⟩ := List.mem_iff_getElem?.1 hf
        have hi' : fs[i]? = some f := by simpa using hi
        have := hz i f hi'
        have hil : i < zs.length := by rw [hzl]; have := (List.getElem?_eq_some_iff.1 hi).1; simpa using this
        rw [List.getElem?_eq_getElem hil] at this
        exact ⟨_, this⟩
      have hmem : ∀ f ∈ fs.toList, f.type ∈ ts := fun f hf => by have := List.all_eq_true.1 hall f hf; simpa using this
      have key : ∀ (l : List Field) (o : Nat), laidFrom P o l = some (P.cellsOf t) → (∀ f ∈ l, f ∈ fs.toList) →
          ∃ xs, VRelL (mOf w) xs (cs.drop o) ∧ hasParts (has P fuel) (l.map (·.type)) xs ∧ ∀ v ∈ cs.drop o, v.oneCell' = true := by
        intro l
        induction l with
        | nil =>
          intro o ho _
          simp only [laidFrom, Option.some.injEq] at ho
          have : cs.drop o = [] := by apply List.drop_eq_nil_of_le; omega
          rw [this]
          exact ⟨[], .nil, by simp [hasParts], by simp⟩
        | cons f l ih =>
          intro o ho hl
          simp only [laidFrom] at ho
          split at ho
          · rename_i hfo
            obtain ⟨xs, k1, k2, k3⟩ := ih _ ho (fun g hg => hl g (List.mem_cons_of_mem _ hg))
            obtain ⟨z, hz⟩ := hz' f (hl f (by simp))
            obtain ⟨ys, j1, j2, j3⟩ := trod_has hts fuel f.type _ z (hmem f (hl f (by simp))) hz
            rw [hfo] at j1 j3
            have hsplit : cs.drop o = (cs.drop o).take (P.cellsOf f.type) ++ cs.drop (o + P.cellsOf f.type) := by
              rw [← List.drop_drop, List.take_append_drop]
            refine ⟨ys ++ xs, ?_, ?_, ?_⟩
            · rw [hsplit]; exact j1.append k1
            · simp only [List.map_cons, hasParts]; exact ⟨ys, xs, rfl, j2, k2⟩
            · intro v hv
              rw [hsplit, List.mem_append] at hv
              exact hv.elim (j3 v) (k3 v)
          · cases ho
      obtain ⟨xs, k1, k2, k3⟩ := key fs.toList 0 hlaid (fun f hf => hf)
      exact ⟨xs, by simpa using k1, by simp only [has, hu]; exact k2, by simpa using k3⟩
    · cases hok

/-- Values of the types of a row's parameters. -/
def hasAll (P : Program) : List TypeId → List AV → Prop
  | [], [] => True
  | t :: ts, x :: xs => (∃ n, isOf P (has P n) t x) ∧ hasAll P ts xs
  | _, _ => False

theorem value_box {P : Program} {ts : List TypeId} (hts : tysOk P ts = true) {m : M} {n : Nat} {t : TypeId} (ht : t ∈ ts) {w : World} {r : Reach} {b : Nat} {v : Value} (hok : Value.okWide P w r b t v) {xs : List AV}
    (hh : has P n t xs) (hr : VRelL m xs v.cells.toList) : ∃ y, isOf P (has P n) t y ∧ VRel m y v := by
  have hty := tysOk_at hts ht
  cases hagg : tyAgg P t with
  | true =>
    have : ∃ cs, v = .agg cs := by
      unfold Value.okWide at hok
      unfold tyOk at hty
      unfold tyAgg at hagg
      split at hty <;> first | (cases hty; done) | (rename_i hu; rw [hu] at hok hagg; first | (obtain ⟨cs, rfl, _⟩ := hok; exact ⟨cs, rfl⟩) | cases hagg)
    obtain ⟨cs, rfl⟩ := this
    exact ⟨.agg xs, .inl ⟨hagg, xs, rfl, hh⟩, by simp only [VRel]; exact ⟨cs, rfl, hr⟩⟩
  | false =>
    have hv : VCells v = [v] := by
      unfold Value.okWide at hok
      unfold tyOk at hty
      unfold tyAgg at hagg
      split at hty <;>
        first
        | (cases hty; done)
        | (rename_i hu; rw [hu] at hok hagg; first | (simp at hagg; done) | (cases v <;> first | rfl | (simp [Cell.okWide, Cell.ok, hu] at hok)))
    rw [show v.cells.toList = [v] from hv] at hr
    match xs, hr with
    | [x], hr =>
      simp only [VRelL] at hr
      obtain ⟨v', vs, e, hx, e'⟩ := hr
      subst e'
      simp only [List.cons.injEq, and_true] at e
      subst e
      exact ⟨x, .inr ⟨hagg, hh⟩, hx⟩
    | [], hr => simp [VRelL] at hr
    | _ :: _ :: _, hr =>
      simp only [VRelL] at hr
      obtain ⟨v', vs, e, hx, v'', vs', e', _⟩ := hr
      subst e'
      simp at e

theorem trodAll_has {H : Type} {enc : TypeId × Value → H} {P : Program} {w : World} {ts : List TypeId} (hts : tysOk P ts = true) {b : Nat} :
    ∀ (ps : List TypeId) (vs : List Value) (ds : List (DataW H)) (pl : List MemPlace), (∀ t ∈ ps, t ∈ ts) → DataW.TrodAll enc P w 0 (fun _ => true) true ps vs ds pl →
      (∀ (j : Nat) t v, ps[j]? = some t → vs[j]? = some v → Value.okWide P w .any b t v) → ∃ xs, VRelL (mOf w) xs vs ∧ hasAll P ps xs ∧ ds.length = ps.length
  | [], vs, ds, pl, _, h, _ => by
    obtain ⟨rfl, rfl, rfl⟩ := trodAll_nil h
    exact ⟨[], .nil, by simp [hasAll], rfl⟩
  | t :: ps, vs, ds, pl, hm, h, hv => by
    obtain ⟨v, vs1, d, ds1, p, q, rfl, rfl, rfl, ⟨n, h1⟩, h2⟩ := trodAll_cons h
    obtain ⟨xs, k1, k2, k3⟩ := trodAll_has hts ps vs1 ds1 q (fun t ht => hm t (List.mem_cons_of_mem _ ht)) h2 (fun j t u e1 e2 => hv (j + 1) t u (by simpa using e1) (by simpa using e2))
    obtain ⟨cs, j1, j2, j3⟩ := trod_has hts n t _ _ (hm t (by simp)) h1
    obtain ⟨y, q1, q2⟩ := value_box hts (hm t (by simp)) (hv 0 t v (by simp) (by simp)) j2 j1
    exact ⟨y :: xs, .cons q2 k1, by simp only [hasAll]; exact ⟨⟨n, q1⟩, k2⟩, by simp [k3]⟩

theorem below_of_step {w w' : World} {m' : M} {h' : Heap} (s : Step w.heap.size (mOf w) [] w m' h' w') : Below w.heap.size w w' where
  os := s.os
  tape := s.tape
  output := s.output
  size := s.size
  block := fun k hk => s.frame k hk (fun ht => by rcases ht with ⟨i, cs, e, _⟩ | ⟨i, n, sz, a, cap, e, _⟩ <;> simp at e)

theorem trodAll_stays {H : Type} {enc : TypeId × Value → H} {P : Program} {W W' : World} (hl : laidOutB P = true) (hb : Below W.heap.size W W') {sp : Nat → Bool} : ∀ (ps : List TypeId) (vs : List Value) (ds : List (DataW H)) (pl : List MemPlace),
    (ps.all fun t => P.readableRec t && decide (t < P.types.size)) = true → (∀ p ∈ pl, p.block < W.heap.size) → (∀ p ∈ pl, sp p.block = true) → DataW.TrodAll enc P W 0 (fun _ => true) true ps vs ds pl → DataW.TrodAll enc P W' 0 sp true ps vs ds pl
  | [], vs, ds, pl, _, _, _, h => by
    obtain ⟨rfl, rfl, rfl⟩ := trodAll_nil h
    rfl
  | t :: ps, vs, ds, pl, ha, hlt, hsp, h => by
    obtain ⟨v, vs1, d, ds1, p, q, rfl, rfl, rfl, h1, h2⟩ := trodAll_cons h
    simp only [List.all_cons, Bool.and_eq_true, decide_eq_true_eq] at ha
    exact ⟨p, q, WideElems.Trod_stays hl ha.1.1 ha.1.2 h1 (fun x hx => hb.same (hlt x (by simp [hx]))) (fun x hx => hsp x (by simp [hx])),
      trodAll_stays hl hb ps vs1 ds1 q ha.2 (fun x hx => hlt x (by simp [hx])) (fun x hx => hsp x (by simp [hx])) h2, rfl⟩

/-- **A law's contract**: the evaluator answers true at every argument. -/
theorem law_contract {C : Cfg} (hC : CfgOk C) (hB : BodiesOk C) (hmix : C.P.follows .mixedOrders = true) (hl : laidOutB C.P = true) {H : Type} {enc : TypeId × Value → H} {f : FuncId} {fn : Func} {s : ChangeSpec} {fresh handsOn : Bool} {tb : TypeId}
    (hvars : s.vars = []) (hres : fn.resultTypes = #[tb]) (htb : C.P.underlying tb = some .bool) {ts : List TypeId} (hts : tysOk C.P ts = true)
    (hps : (fn.params.toList.all fun t => ts.contains t && C.P.readableRec t && decide (t < C.P.types.size)) = true)
    (hs : ∀ ds : List (DataW H), ds.length = fn.params.toList.length → (s.fn H ds).results = [.lit (.bool true)] ∧ (s.fn H ds).args = ds ∧ (s.fn H ds).vars = [])
    (hev : ∀ xs, hasAll C.P fn.params.toList xs → ∃ k h d, evalF C k f xs [] = some (.bool true, h, d))
    (W : World) (base : Nat) (args : Array Value) (ds gs : List (DataW H)) (before : List MemPlace)
    (hval : ∀ (j : Nat) t v, fn.params[j]? = some t → args[j]? = some v → Value.okWide C.P W .any base t v)
    (hW : DataW.Whole enc C.P fn.params.toList s.vars false W args.toList ds gs before) :
    Calls C.P f args W fun e W' => ∃ v, e = .returned v ∧ s.post enc C.P fn false fresh handsOn false W args v W' := by
  have hW' := hW
  obtain ⟨p, q, hA, hV, rfl, hfz, hnd⟩ := hW'
  rw [hvars] at hV
  obtain ⟨rfl, rfl⟩ := trodVars_none hV
  have hall := List.all_eq_true.1 hps
  have hmem : ∀ t ∈ fn.params.toList, t ∈ ts := fun t ht => by have := hall t ht; simp only [Bool.and_eq_true, List.contains_iff_mem] at this; exact this.1.1
  have hrd : (fn.params.toList.all fun t => C.P.readableRec t && decide (t < C.P.types.size)) = true := by
    rw [List.all_eq_true]
    intro t ht
    have := hall t ht
    simp only [Bool.and_eq_true] at this
    simp only [Bool.and_eq_true]
    exact ⟨this.1.2, this.2⟩
  obtain ⟨xs, k1, k2, k3⟩ := trodAll_has hts fn.params.toList args.toList ds p hmem hA (fun j t v e1 e2 => hval j t v (by simpa using e1) (by simpa using e2))
  obtain ⟨k, h, d, he⟩ := hev xs k2
  obtain ⟨hc, _⟩ := evalF_ok hC hB hmix k f xs [] _ _ _ he (mOf W) W args (inv_mOf W) k1
  refine hc.mono ?_
  rintro e W' ⟨u, rfl, m', st, hu⟩
  simp only [VRel] at hu
  subst hu
  have hb := below_of_step st
  obtain ⟨s1, s2, s3⟩ := hs (ds ++ []) (by simpa using k3)
  rw [List.append_nil] at s1 s2 s3
  simp only [List.append_nil] at hW hfz
  refine ⟨_, rfl, ds, [], p, [], p, [], hW, ?_, ?_, ?_, hb.frame _, fun h => by cases h⟩
  · rw [List.append_nil, s1, hres]
    exact trodAll_mk1 (shut_bool htb true)
  · rw [List.append_nil, s2]
    exact trodAll_stays hl hb _ _ _ _ hrd (fun x hx => hW.lt x hx) (fun x hx => by simpa using hW.lt x hx) hA
  · rw [List.append_nil, s3, hvars]
    rfl

end Go.Proofs.Ytnifldbmflkmpaa.Ev
