/-
  Parts, one behind the other: EvH, EvI, EvJ, EvK, EvL.
-/
import Derived.Laws.BytesArg
import Derived.Laws.IdiomStrings
import Derived.Laws.MakeOwn
import Derived.Test.YtpfdfilkhaoibaaMa
/-
  What each operation does: literals, variables, stores, conversions, lengths, append, make.
-/
namespace Go.Proofs.Ytpfdfilkhaoibaa.Ev
open Go
set_option linter.unusedVariables false
set_option linter.unusedSimpArgs false

theorem ofCell_rel {m : M} : ∀ (v : Value) (x : AV), ofCell v = some x → VRel m x v
  | v, x, h => by
    unfold ofCell at h
    split at h
    all_goals first
      | (cases h; done)
      | (simp only [Option.some.injEq] at h; subst h; simp only [VRel]; done)
      | (simp only [Option.some.injEq] at h; subst h; simp only [VRel]; exact ⟨_, rfl, rfl⟩)

theorem mapM_cells {m : M} : ∀ (l : List Value) (xs : List AV), l.mapM ofCell = some xs → VRelL m xs l
  | [], xs, h => by simp at h; subst h; exact .nil
  | v :: l, xs, h => by
    rw [List.mapM_cons] at h
    cases hv : ofCell v with
    | none => simp [hv] at h
    | some y =>
      cases hl : l.mapM ofCell with
      | none => simp [hv, hl] at h
      | some ys =>
        simp [hv, hl] at h
        subst h
        exact .cons (ofCell_rel v y hv) (mapM_cells l ys hl)

theorem ofConst_rel {m : M} {v : Value} {x : AV} (h : ofConst v = some x) : VRel m x v := by
  unfold ofConst at h
  split at h
  · rename_i cs
    cases hl : cs.toList.mapM ofCell with
    | none => simp [hl] at h
    | some xs =>
      simp only [hl, Option.map_some, Option.some.injEq] at h
      subst h
      simp only [VRel]
      exact ⟨cs, rfl, mapM_cells _ _ hl⟩
  · exact ofCell_rel _ _ h

theorem tyZero_spec {P : Program} {t : TypeId} {z : AV} (h : tyZero P t = some z) : ∃ i v, P.info? t = some i ∧ i.zero = some v ∧ ∀ m, VRel m z v := by
  unfold tyZero at h
  cases hi : P.info? t with
  | none => simp [hi] at h
  | some i =>
    cases hz : i.zero with
    | none => simp [hi, hz] at h
    | some v =>
      simp [hi, hz] at h
      exact ⟨i, v, rfl, hz, fun m => ofConst_rel h⟩
theorem run_zeroValue' {P : Program} {t : TypeId} {i : TypeInfo} {v : Value} (hi : P.info? t = some i) (hz : i.zero = some v) (w : World) : (zeroValue t).run P w = .ok v w := by
  simp [zeroValue, typeInfo, hi, hz]

theorem foldl_splice : ∀ (vs : List Value) (k off : Nat) (cs : Array Value), off + k + vs.length ≤ cs.size →
    ((vs.zipIdx k).foldl (fun (cs : Array Value) (p : Value × Nat) => cs.setIfInBounds (off + p.2) p.1) cs).toList = splice cs.toList (off + k) vs
  | [], k, off, cs, h => by simp [splice]
  | v :: vs, k, off, cs, h => by
    simp only [List.zipIdx_cons, List.foldl_cons]
    have ih := foldl_splice vs (k + 1) off (cs.setIfInBounds (off + k) v) (by simp at h ⊢; omega)
    rw [ih]
    apply List.ext_getElem?
    intro j
    rw [splice_get _ _ _ (by simp at h ⊢; omega), splice_get _ _ _ (by simp at h ⊢; omega)]
    simp only [Array.toList_setIfInBounds, List.length_cons]
    by_cases e1 : j < off + k
    · rw [if_pos (by omega), if_pos e1, List.getElem?_set_ne (by omega)]
    · rw [if_neg e1]
      by_cases e2 : j = off + k
      · subst e2
        rw [if_pos (by omega), if_pos (by omega), List.getElem?_set_self (by simp at h ⊢; omega)]
        simp
      · rw [if_neg (by omega)]
        by_cases e3 : j < off + (k + 1) + vs.length
        · rw [if_pos e3, if_pos (by omega)]
          rw [show j - (off + k) = (j - (off + (k + 1))) + 1 by omega]
          simp
        · rw [if_neg e3, if_neg (by omega), List.getElem?_set_ne (by omega)]

/-- Parts of a literal. -/
def PRel (m : M) : List (Nat × AV) → List (Nat × Value) → Prop
  | [], l => l = []
  | (i, x) :: xs, l => ∃ v vs, l = (i, v) :: vs ∧ VRel m x v ∧ PRel m xs vs

theorem fillA_ok {m : M} (place : Nat → Option (Nat × Nat)) : ∀ (parts : List (Nat × AV)) (cparts : List (Nat × Value)) (cells : List AV) (ccells : Array Value) (out : List AV),
    PRel m parts cparts → VRelL m cells ccells.toList → fillA place cells parts = some out → ∃ cout, Instr.fill place ccells cparts = some cout ∧ VRelL m out cout.toList
  | [], cparts, cells, ccells, out, hp, hr, he => by
    simp only [PRel] at hp
    subst hp
    simp only [fillA, Option.some.injEq] at he
    subst he
    exact ⟨ccells, by simp [Instr.fill], hr⟩
  | (i, x) :: parts, cparts, cells, ccells, out, hp, hr, he => by
    simp only [PRel] at hp
    obtain ⟨v, vs, rfl, h1, h2⟩ := hp
    simp only [fillA] at he
    split at he
    · cases he
    · rename_i off size hpl
      split at he
      · cases he
      · rename_i hc
        simp only [Bool.or_eq_true, decide_eq_true_eq, not_or] at hc
        obtain ⟨c1, c2⟩ := hc
        have hvl := VCells_length h1
        have hvl' : v.cells.size = x.cells.length := hvl
        have hcl : ccells.size = cells.length := hr.length
        have hsp : (v.cells.zipIdx.foldl (fun cs (p : Value × Nat) => cs.setIfInBounds (off + p.2) p.1) ccells).toList = splice ccells.toList off (VCells v) := by
          rw [← Array.foldl_toList, Array.toList_zipIdx]
          have := foldl_splice v.cells.toList 0 off ccells (by simp; omega)
          simp only [Nat.add_zero] at this
          exact this
        obtain ⟨cout, k1, k2⟩ := fillA_ok place parts vs _ (v.cells.zipIdx.foldl (fun cs (p : Value × Nat) => cs.setIfInBounds (off + p.2) p.1) ccells) out h2
          (by rw [hsp]; exact hr.splice h1.cells off) he
        refine ⟨cout, ?_, k2⟩
        simp only [Instr.fill, hpl]
        rw [if_neg (by simp; omega)]
        exact k1

theorem structPlaces_run {P : Program} {w : World} (fields : Array Field) {places : List (Nat × Nat)} (h : structPlaces P fields = some places) :
    (fields.mapM (m := Sem) fun f => do pure (f.offset, ← sizeOf f.type)).run P w = .ok places.toArray w := by
  unfold structPlaces at h
  rw [Array.mapM_eq_mapM_toList]
  have key : ∀ (l : List Field) (ps : List (Nat × Nat)), (l.mapM fun f => (tySize P f.type).map fun n => (f.offset, n)) = some ps →
      (l.mapM (m := Sem) fun f => do pure (f.offset, ← sizeOf f.type)).run P w = .ok ps w := by
    intro l
    induction l with
    | nil => intro ps h; simp at h; subst h; simp
    | cons f l ih =>
      intro ps h
      rw [List.mapM_cons] at h
      cases hs : tySize P f.type with
      | none => simp [hs] at h
      | some n =>
        cases hl : (l.mapM fun f => (tySize P f.type).map fun n => (f.offset, n)) with
        | none => simp [hs, hl] at h
        | some qs =>
          simp [hs, hl] at h
          subst h
          rw [List.mapM_cons]
          simp only [Sem.run_bind, run_sizeOf' hs, Result.andThen_ok, Sem.run_pure, ih qs hl]
  simp only [Sem.run_map, key _ _ h, Result.andThen_ok]

theorem buildA_ok {P : Program} {m : M} {w : World} {t : TypeId} {parts : List (Nat × AV)} {z : AV} (he : buildA P t parts = some z) {cparts : Array (Nat × Value)} (hp : PRel m parts cparts.toList) :
    ∃ r, (Instr.build t cparts).run P w = .ok r w ∧ VRel m z r := by
  unfold buildA at he
  split at he
  · rename_i z0 fields hz hu
    obtain ⟨i, zv, g1, g2, g3⟩ := tyZero_spec hz
    split at he
    · rename_i places hpl
      cases hf : fillA (places[·]?) z0.cells parts with
      | none => simp [hf] at he
      | some out =>
        simp only [hf, Option.map_some, Option.some.injEq] at he
        subst he
        obtain ⟨cout, k1, k2⟩ := fillA_ok (places[·]?) parts cparts.toList _ zv.cells out hp (g3 m).cells hf
        refine ⟨.agg cout, ?_, by simp only [VRel]; exact ⟨cout, rfl, k2⟩⟩
        have hpl' := structPlaces_run (P := P) (w := w) fields hpl
        simp only [Instr.build, Sem.run_bind, run_zeroValue' g1 g2, Result.andThen_ok, run_underlying hu]
        rw [hpl']
        simp [k1]
    · cases he
  · rename_i z0 len e hz hu
    obtain ⟨i, zv, g1, g2, g3⟩ := tyZero_spec hz
    split at he
    · rename_i n hs
      cases hf : fillA (fun i => some (i * n, n)) z0.cells parts with
      | none => simp [hf] at he
      | some out =>
        simp only [hf, Option.map_some, Option.some.injEq] at he
        subst he
        obtain ⟨cout, k1, k2⟩ := fillA_ok (fun i => some (i * n, n)) parts cparts.toList _ zv.cells out hp (g3 m).cells hf
        refine ⟨.agg cout, ?_, by simp only [VRel]; exact ⟨cout, rfl, k2⟩⟩
        simp [Instr.build, run_zeroValue' g1 g2, run_underlying hu, run_sizeOf' hs, k1]
    · cases he
  · cases he

theorem lenA_ok {P : Program} {m : M} {w : World} {t ty : TypeId} {ts : Array TypeId} (ht : ts[0]? = some t) {x z : AV} (he : lenA P t x = some z) {us : Array Value} {u : Value} (hu0 : us[0]? = some u) (hx : VRel m x u) :
    ∃ r, (Builtin.len_ ts ty us).run P w = .ok r w ∧ VRel m z r := by
  unfold lenA at he
  split at he
  · rename_i s hu
    simp only [Option.some.injEq] at he; subst he
    simp only [VRel] at hx
    obtain ⟨b, rfl, rfl⟩ := hx
    refine ⟨goInt b.size, by simp [Builtin.len_, ht, hu0, run_underlying hu], ?_⟩
    simp only [goInt, VRel]
    rfl
  · rename_i n e hu
    simp only [Option.some.injEq] at he; subst he
    exact ⟨goInt n, by simp [Builtin.len_, ht, hu0, run_underlying hu], by simp only [goInt, VRel]⟩
  · rename_i a hu
    split at he
    · rename_i n e ha
      simp only [Option.some.injEq] at he; subst he
      exact ⟨goInt n, by simp [Builtin.len_, ht, hu0, run_underlying hu, run_underlying ha], by simp only [goInt, VRel]⟩
    · cases he
  · rename_i e xs nn cap tok hu
    simp only [Option.some.injEq] at he; subst he
    simp only [VRel] at hx
    rcases hx with ⟨rfl, _, _, _, rfl⟩ | ⟨a, cap', cvs, s, rfl, _⟩
    · exact ⟨goInt 0, by simp [Builtin.len_, ht, hu0, run_underlying hu], by simp only [goInt, VRel]; rfl⟩
    · exact ⟨goInt xs.length, by simp [Builtin.len_, ht, hu0, run_underlying hu], by simp only [goInt, VRel]⟩
  · rename_i e hu
    simp only [Option.some.injEq] at he; subst he
    simp only [VRel] at hx
    subst hx
    exact ⟨goInt 0, by simp [Builtin.len_, ht, hu0, run_underlying hu], by simp only [goInt, VRel]⟩
  · rename_i e b o n c nn ex hu
    simp only [Option.some.injEq] at he; subst he
    simp only [VRel] at hx
    obtain ⟨c, cap', _, rfl, _⟩ := hx
    exact ⟨goInt n, by simp [Builtin.len_, ht, hu0, run_underlying hu], by simp only [goInt, VRel]⟩
  · cases he

theorem minA_spec {m : M} {less : Bool} {x y z : AV} (he : minA less x y = some z) {u v : Value} (hx : VRel m x u) (hy : VRel m y v) :
    ∃ k a b, u = .int k a ∧ v = .int k b ∧ z = .int k (if less then (if b < a then b else a) else (if b > a then b else a)) := by
  unfold minA at he
  split at he
  · split at he
    · rename_i hk
      subst hk
      simp only [Option.some.injEq] at he
      exact ⟨_, _, _, hx.int', hy.int', he.symm⟩
    · cases he
  · cases he

theorem minsA_min {P : Program} {m : M} {w : World} : ∀ (rest : List AV) (x z : AV) (us : List Value) (u : Value), rest.foldlM (minA true) x = some z → VRel m x u → VRelL m rest us →
    ∃ r, (us.foldlM Builtin.min2 u).run P w = .ok r w ∧ VRel m z r
  | [], x, z, us, u, he, hx, hr => by
    simp only [VRelL] at hr; subst hr
    simp at he; subst he
    exact ⟨u, by simp, hx⟩
  | y :: rest, x, z, us, u, he, hx, hr => by
    simp only [VRelL] at hr
    obtain ⟨v, vs, rfl, h1, h2⟩ := hr
    rw [List.foldlM_cons] at he
    cases hq : minA true x y with
    | none => simp [hq] at he
    | some q =>
      simp [hq] at he
      obtain ⟨k, a, b, rfl, rfl, rfl⟩ := minA_spec hq hx h1
      obtain ⟨r, k1, k2⟩ := minsA_min (P := P) (w := w) rest _ z vs (.int k (if b < a then b else a)) he (by simp only [VRel, if_true]) h2
      refine ⟨r, ?_, k2⟩
      rw [List.foldlM_cons]
      simp [Builtin.min2, k1]
theorem minsA_max {P : Program} {m : M} {w : World} : ∀ (rest : List AV) (x z : AV) (us : List Value) (u : Value), rest.foldlM (minA false) x = some z → VRel m x u → VRelL m rest us →
    ∃ r, (us.foldlM Builtin.max2 u).run P w = .ok r w ∧ VRel m z r
  | [], x, z, us, u, he, hx, hr => by
    simp only [VRelL] at hr; subst hr
    simp at he; subst he
    exact ⟨u, by simp, hx⟩
  | y :: rest, x, z, us, u, he, hx, hr => by
    simp only [VRelL] at hr
    obtain ⟨v, vs, rfl, h1, h2⟩ := hr
    rw [List.foldlM_cons] at he
    cases hq : minA false x y with
    | none => simp [hq] at he
    | some q =>
      simp [hq] at he
      obtain ⟨k, a, b, rfl, rfl, rfl⟩ := minA_spec hq hx h1
      obtain ⟨r, k1, k2⟩ := minsA_max (P := P) (w := w) rest _ z vs (.int k (if b > a then b else a)) he (by simp only [VRel]; simp) h2
      refine ⟨r, ?_, k2⟩
      rw [List.foldlM_cons]
      simpa [Builtin.max2] using k1

theorem minsA_ok {P : Program} {m : M} {w : World} {ts : Array TypeId} {ty : TypeId} (less : Bool) {vs : List AV} {z : AV} (he : minsA less vs = some z) {us : Array Value} (hr : VRelL m vs us.toList) :
    ∃ r, ((if less then Builtin.min_ ts ty us else Builtin.max_ ts ty us)).run P w = .ok r w ∧ VRel m z r := by
  unfold minsA at he
  split at he
  · cases he
  · rename_i x rest
    simp only [VRelL] at hr
    obtain ⟨u, us', hu, h1, h2⟩ := hr
    cases less with
    | true =>
      obtain ⟨r, k1, k2⟩ := minsA_min (P := P) (w := w) rest x z us' u he h1 h2
      exact ⟨r, by simp [Builtin.min_, hu, k1], k2⟩
    | false =>
      obtain ⟨r, k1, k2⟩ := minsA_max (P := P) (w := w) rest x z us' u he h1 h2
      exact ⟨r, by simp [Builtin.max_, hu, k1], k2⟩

/-- []byte's elements as octets. -/
theorem bytesOf_spec {m : M} : ∀ (xs : List AV) (s : List UInt8) (vs : List Value), bytesOf xs = some s → VRelL m xs vs → ∃ ns : List Int, vs = ns.map (Value.int .u8) ∧ s = ns.map fun n => UInt8.ofNat n.toNat
  | [], s, vs, h, hr => by
    simp only [VRelL] at hr; subst hr
    simp only [bytesOf, Option.some.injEq] at h; subst h
    exact ⟨[], rfl, rfl⟩
  | .int .u8 n :: xs, s, vs, h, hr => by
    simp only [VRelL] at hr
    obtain ⟨v, us, rfl, h1, h2⟩ := hr
    simp only [bytesOf] at h
    cases hq : bytesOf xs with
    | none => simp [hq] at h
    | some q =>
      simp only [hq, Option.map_some, Option.some.injEq] at h
      subst h
      obtain ⟨ns, rfl, rfl⟩ := bytesOf_spec xs q us hq h2
      exact ⟨n :: ns, by rw [h1.int']; rfl, rfl⟩
  | x :: xs, s, vs, h, hr => by
    unfold bytesOf at h
    split at h
    · rename_i heq; cases heq
    · rename_i heq
      cases heq
      simp only [VRelL] at hr
      obtain ⟨v, us, rfl, h1, h2⟩ := hr
      cases hq : bytesOf xs with
      | none => simp [hq] at h
      | some q =>
        simp only [hq, Option.map_some, Option.some.injEq] at h
        subst h
        obtain ⟨ns, rfl, rfl⟩ := bytesOf_spec xs q us hq h2
        exact ⟨_ :: ns, by rw [h1.int']; rfl, rfl⟩
    · cases h

end Go.Proofs.Ytpfdfilkhaoibaa.Ev

/-
  Conversions between texts and octets; slice literals, variables, stores, append, make: with the heap.
-/
namespace Go.Proofs.Ytpfdfilkhaoibaa.Ev
open Go
set_option linter.unusedVariables false
set_option linter.unusedSimpArgs false

theorem size_alloc' (w : World) (o : Obj) : (w.alloc o).heap.size = w.heap.size + 1 := by simp

/-- What a new list's spare part needs: no touch of what is there. -/
theorem Step.newList {m : M} {h : Heap} {w : World} (hi : Inv m h w) (arr : Array Value) (t : TypeId) (fr : Nat × Nat) (n sz cap : Nat) (hn : n ≤ cap) (hs : arr.size = cap * sz)
    (hfr : ∀ j, j < cap * sz → ¬ (fr.1 ≤ j ∧ j < fr.2)) (ho : ∀ v ∈ arr.toList.take (n * sz), v.oneCell' = true) :
    ∃ m', Step w.heap.size m h w m' (h ++ [.own n sz]) (w.alloc (.cells arr t fr)) ∧ CellsF m'.F ⟨w.heap.size, 0, none⟩ (arr.toList.take (n * sz)) ∧ m'.rho h.length n = some (⟨w.heap.size, 0, none⟩, cap) := by
  obtain ⟨m1, s1, hc, hmu, hrho, hnone⟩ := Step.newRow hi arr t fr (n * sz) ho
  have hrow : (w.alloc (.cells arr t fr)).heap[w.heap.size]? = some (.cells arr t fr) := heap_alloc_new w _
  have hT : ¬ Touch m1 h w.heap.size := by
    intro ht
    rcases ht with ⟨i, cs, e, h1⟩ | ⟨i, k, tz, a, ca, e, h1, h2⟩
    · rw [hmu] at h1
      have := Touch.lt hi (.inl ⟨i, cs, e, h1⟩); omega
    · rw [hrho] at h1
      have := Touch.lt hi (.inr ⟨i, k, tz, a, ca, e, h1, rfl⟩); omega
  have s2 := Step.tok (B := w.heap.size) s1.inv n sz ⟨w.heap.size, 0, none⟩ cap
    ⟨rfl, hn, fun j h1 h2 => ⟨⟨arr[j]'(by omega), by simp only [Nat.zero_add]; rw [cell_row hrow]; exact getElem?_pos arr j (by omega)⟩, by
        simp only [Nat.zero_add]
        unfold World.frozen?
        rw [hrow]
        have := hfr j h2
        cases hd : (decide (fr.1 ≤ j) && decide (j < fr.2)) with
        | false => exact hd
        | true => simp at hd; exact (this hd).elim, by
        simp only [Nat.zero_add]; exact hnone j h1⟩, by simp, fun k cs e e1 => hT (.inl ⟨k, cs, e, e1⟩)⟩
    (Nat.le_refl _) hT
  exact ⟨_, s1.trans s2, hc, by simp⟩

/-- The same for a list that moves to a new row. -/
theorem Step.moveList {m : M} {h : Heap} {w : World} (hi : Inv m h w) (arr : Array Value) (t : TypeId) (fr : Nat × Nat) (n sz cap : Nat) (hn : n ≤ cap) (hs : arr.size = cap * sz)
    (hfr : ∀ j, j < cap * sz → ¬ (fr.1 ≤ j ∧ j < fr.2)) (ho : ∀ v ∈ arr.toList.take (n * sz), v.oneCell' = true) (τ k : Nat) (hτ : h[τ]? = some (.own k sz)) (hk : k < n) :
    ∃ m', Step w.heap.size m h w m' (h.set τ (.own n sz)) (w.alloc (.cells arr t fr)) ∧ CellsF m'.F ⟨w.heap.size, 0, none⟩ (arr.toList.take (n * sz)) ∧ m'.rho τ n = some (⟨w.heap.size, 0, none⟩, cap) := by
  obtain ⟨m1, s1, hc, hmu, hrho, hnone⟩ := Step.newRow hi arr t fr (n * sz) ho
  have hrow : (w.alloc (.cells arr t fr)).heap[w.heap.size]? = some (.cells arr t fr) := heap_alloc_new w _
  have hT : ¬ Touch m1 h w.heap.size := by
    intro ht
    rcases ht with ⟨i, cs, e, h1⟩ | ⟨i, k, tz, a, ca, e, h1, h2⟩
    · rw [hmu] at h1
      have := Touch.lt hi (.inl ⟨i, cs, e, h1⟩); omega
    · rw [hrho] at h1
      have := Touch.lt hi (.inr ⟨i, k, tz, a, ca, e, h1, rfl⟩); omega
  have s2 := Step.retok (B := w.heap.size) s1.inv τ k sz n hτ hk ⟨w.heap.size, 0, none⟩ cap
    ⟨rfl, hn, fun j h1 h2 => ⟨⟨arr[j]'(by omega), by simp only [Nat.zero_add]; rw [cell_row hrow]; exact getElem?_pos arr j (by omega)⟩, by
        simp only [Nat.zero_add]
        unfold World.frozen?
        rw [hrow]
        have := hfr j h2
        cases hd : (decide (fr.1 ≤ j) && decide (j < fr.2)) with
        | false => exact hd
        | true => simp at hd; exact (this hd).elim, by
        simp only [Nat.zero_add]; exact hnone j h1⟩, by simp, fun k cs e e1 => hT (.inl ⟨k, cs, e, e1⟩)⟩
    (.inl (Nat.le_refl _)) (fun i k tz b cb _ e e1 e2 => hT (.inr ⟨i, k, tz, b, cb, e, e1, e2⟩))
  exact ⟨_, s1.trans s2, hc, by simp⟩

theorem ofBytes_rel {m : M} (s : List UInt8) : VRelL m (ofBytes s) (s.map fun b => Value.int .u8 (b.toNat : Int)) := by
  induction s with
  | nil => exact .nil
  | cons b s ih => exact .cons (by simp only [VRel]) ih

theorem flatMap_one : ∀ (l : List Value), (∀ v ∈ l, VCells v = [v]) → l.flatMap VCells = l
  | [], _ => rfl
  | v :: l, h => by
    rw [List.flatMap_cons, h v (by simp), flatMap_one l (fun u hu => h u (by simp [hu]))]
    rfl

theorem convA_ok {P : Program} {m : M} {h h' : Heap} {w : World} (hi : Inv m h w) {src dst : TypeId} {x z : AV} (he : convA P src dst h x = some (z, h')) {u : Value} (hx : VRel m x u) :
    ∃ r w' m', (convert src dst u).run P w = .ok r w' ∧ Step w.heap.size m h w m' h' w' ∧ VRel m' z r := by
  unfold convA at he
  split at he
  · rename_i ds k k0 n hs hd
    simp only [Option.some.injEq, Prod.mk.injEq] at he
    obtain ⟨rfl, rfl⟩ := he
    rw [hx.int']
    exact ⟨.int k (k.wrap n), w, m, by simp [convert, run_underlying hs, run_underlying hd, Conv.intToInt], Step.refl hi, by simp only [VRel]⟩
  · rename_i s hs hd
    simp only [Option.some.injEq, Prod.mk.injEq] at he
    obtain ⟨rfl, rfl⟩ := he
    have hx' := hx
    simp only [VRel] at hx
    obtain ⟨b, rfl, rfl⟩ := hx
    exact ⟨.string b, w, m, by simp [convert, run_underlying hs, run_underlying hd], Step.refl hi, hx'⟩
  · rename_i e s hs hd
    split at he
    · rename_i hu
      simp only [Option.some.injEq, Prod.mk.injEq] at he
      obtain ⟨rfl, rfl⟩ := he
      simp only [VRel] at hx
      obtain ⟨b, rfl, rfl⟩ := hx
      have hrun := run_bytes_of_string (P := P) w src dst e b hs hd hu
      have hge : b.size ≤ grownCap w b.size 0 e := grownCap_ge w b.size 0 e
      have hsz : (bytesRow b (grownCap w b.size 0 e)).size = grownCap w b.size 0 e := by simp [bytesRow]; omega
      have htake : (bytesRow b (grownCap w b.size 0 e)).toList.take b.size = b.data.toList.map fun c => Value.int .u8 (c.toNat : Int) := by
        simp only [bytesRow, Array.toList_append, Array.toList_map]
        rw [List.take_append_of_le_length (by simp)]
        exact List.take_of_length_le (by simp)
      have s0 := Step.same (B := w.heap.size) hi (w' := w.drew) rfl rfl rfl rfl
      obtain ⟨m', s1, hc, hr⟩ := Step.newList s0.inv (bytesRow b (grownCap w b.size 0 e)) e ((bytesRow b (grownCap w b.size 0 e)).size, (bytesRow b (grownCap w b.size 0 e)).size + 1)
        b.size 1 (grownCap w b.size 0 e) hge (by omega) (fun j hj => by simp only; omega) (by
          intro v hv
          rw [Nat.mul_one, htake] at hv
          obtain ⟨c, _, rfl⟩ := List.mem_map.1 hv
          rfl)
      refine ⟨_, _, m', hrun, s0.trans s1, ?_⟩
      simp only [VRel]
      have hlen : (ofBytes b.data.toList).length = b.size := by simp [ofBytes]
      rw [Nat.mul_one, htake] at hc
      refine .inr ⟨⟨w.heap.size, 0, none⟩, grownCap w b.size 0 e, b.data.toList.map fun c => Value.int .u8 (c.toNat : Int), 1, by rw [hlen], fun _ => rfl, by rw [hlen]; exact hge, ofBytes_rel _, ?_, ?_, by simp, ?_⟩
      · intro v hv
        obtain ⟨c, _, rfl⟩ := List.mem_map.1 hv
        rfl
      · rw [flatMap_one _ (fun v hv => by obtain ⟨c, _, rfl⟩ := List.mem_map.1 hv; rfl)]
        exact hc
      · intro τ hτ
        simp only [Option.some.injEq] at hτ
        subst hτ
        rw [hlen]
        exact hr
    · cases he
  · rename_i e hs hd
    split at he
    · rename_i hu
      split at he
      · simp only [Option.some.injEq, Prod.mk.injEq] at he
        obtain ⟨rfl, rfl⟩ := he
        simp only [VRel] at hx
        subst hx
        refine ⟨.string .empty, w, m, ?_, Step.refl hi, by simp only [VRel]; exact ⟨_, rfl, rfl⟩⟩
        rw [run_convert_bytes_string w src dst e _ _ _ hs hu hd]
        simp [Conv.bytesToString]
      · rename_i xs nn cap tok
        cases hq : bytesOf xs with
        | none => simp [hq] at he
        | some s =>
          simp only [hq, Option.map_some, Option.some.injEq, Prod.mk.injEq] at he
          obtain ⟨rfl, rfl⟩ := he
          simp only [VRel] at hx
          rcases hx with ⟨rfl, _, _, _, rfl⟩ | ⟨a, cap', cvs, sz, rfl, g2, g3, g4, g5, g6, g7, g8⟩
          · simp only [bytesOf, Option.some.injEq] at hq
            subst hq
            refine ⟨.string .empty, w, m, ?_, Step.refl hi, by simp only [VRel]; exact ⟨_, rfl, rfl⟩⟩
            rw [run_convert_bytes_string w src dst e _ _ _ hs hu hd]
            simp [Conv.bytesToString]
          · obtain ⟨ns, rfl, rfl⟩ := bytesOf_spec xs s cvs hq g4
            have hl : ns.length = xs.length := by simpa using g4.length
            rw [flatMap_one _ (fun v hv => by obtain ⟨c, _, rfl⟩ := List.mem_map.1 hv; rfl)] at g6
            have hld := run_loadCells_list (P := P) w a (ns.map (Value.int .u8)) (fun j v hv => by rw [Addr.add_none a (g2 (by have := (List.getElem?_eq_some_iff.1 hv).1; simp at this; omega))]; exact hi.f _ _ (g6 j v hv))
            simp only [List.length_map, hl] at hld
            refine ⟨.string ⟨ByteArray.empty.data ++ (ns.map fun n => UInt8.ofNat n.toNat).toArray⟩, w, m, ?_, Step.refl hi, ?_⟩
            · rw [run_convert_bytes_string w src dst e _ _ _ hs hu hd, run_bytesToString w a _ _ ns hld, foldl_push_bytes]
            · simp only [VRel]
              exact ⟨_, rfl, by simp [ByteArray.empty, ByteArray.emptyWithCapacity]; rfl⟩
      · rename_i b o len cap nn ex
        split at he
        · rename_i cs hb
          split at he
          · rename_i hle
            cases hq : bytesOf ((cs.drop o).take len) with
            | none => simp [hq] at he
            | some s =>
              simp only [hq, Option.map_some, Option.some.injEq, Prod.mk.injEq] at he
              obtain ⟨rfl, rfl⟩ := he
              simp only [VRel] at hx
              obtain ⟨c, cap', hm, rfl, _⟩ := hx
              obtain ⟨c', cvs, t', k1, k2, k3, _⟩ := hi.var b cs hb
              rw [hm] at k1
              cases k1
              have hcl := k3.length
              obtain ⟨ns, h1, rfl⟩ := bytesOf_spec _ s _ hq ((k3.drop o).take len)
              have hl : ns.length = len := by
                have := congrArg List.length h1
                simp at this hcl
                omega
              have hld := run_loadCells_list (P := P) w ⟨c, o, none⟩ (ns.map (Value.int .u8)) (fun j v hv => by
                rw [Addr.add_mid, cell_row k2]
                rw [← h1] at hv
                have h2 := take_get hv
                rw [List.getElem?_drop] at h2
                simpa using take_get h2)
              simp only [List.length_map, hl] at hld
              refine ⟨.string ⟨ByteArray.empty.data ++ (ns.map fun n => UInt8.ofNat n.toNat).toArray⟩, w, m, ?_, Step.refl hi, ?_⟩
              · rw [run_convert_bytes_string w src dst e _ _ _ hs hu hd, run_bytesToString w _ _ _ ns hld, foldl_push_bytes]
              · simp only [VRel]
                exact ⟨_, rfl, by simp [ByteArray.empty, ByteArray.emptyWithCapacity]; rfl⟩
          · cases he
        · cases he
      · cases he
    · cases he
  · rename_i e0 e xs c τ hs hd
    split at he
    · rename_i hu
      split at he
      · rename_i hc
        obtain ⟨rfl, hc0, hcl⟩ := hc
        split at he
        · rename_i k hτ
          split at he
          · rename_i hkc
            simp only [Option.some.injEq, Prod.mk.injEq] at he
            obtain ⟨rfl, rfl⟩ := he
            have hx' := hx
            simp only [VRel] at hx
            rcases hx with ⟨_, hnn, _⟩ | ⟨a, cap', cvs, sz, rfl, g2, g3, g4, g5, g6, g7, g8⟩
            · cases hnn
            · have hcap : c = cap' := g7 c rfl
              have hrho : m.rho τ k = some (a, cap') := by rw [hkc, hcl]; exact g8 τ rfl
              rw [hs] at hd
              simp only [Option.some.injEq, TypeDesc.slice.injEq] at hd
              subst hd
              have hv : VRel m (.list xs true (some c) none) (.slice (some a) xs.length cap') := by
                simp only [VRel]
                exact .inr ⟨a, cap', cvs, sz, rfl, g2, g3, g4, g5, g6, g7, by simp⟩
              cases hsh : w.shape? a.block with
              | none => exact ⟨_, w, m, by simp [convert, run_underlying hs, run_underlying hu, markStringish, hsh], Step.refl hi, hv⟩
              | some tn =>
                obtain ⟨t, n⟩ := tn
                refine ⟨_, w.freeze ⟨a.block, n, none⟩ 1, m, by simp [convert, run_underlying hs, run_underlying hu, markStringish, hsh], ?_, hv⟩
                have hfr : ∀ c', (w.freeze ⟨a.block, n, none⟩ 1).heap[c']? = if a.block = c' then (w.heap[c']?).map (fun o => match o with
                    | .cells c elem (lo, hi) => .cells c elem (if lo == hi then (n, n + 1) else (min lo n, max hi (n + 1)))
                    | o => o) else w.heap[c']? := by
                  intro c'
                  unfold World.freeze
                  rw [if_neg (by decide)]
                  simp only [Array.getElem?_modify]
                  rfl
                refine Step.mark hi hτ hrho (by omega) (fun c' hc' => by rw [hfr, if_neg (fun e => hc' e.symm)]) (fun p => ?_) (by simp [World.freeze]) rfl rfl rfl
                unfold World.cell?
                rw [hfr]
                by_cases hp : a.block = p.block
                · rw [if_pos hp]
                  cases hq : w.heap[p.block]? with
                  | none => rfl
                  | some o => cases o <;> rfl
                · rw [if_neg hp]
          · cases he
        · cases he
      · cases he
    · cases he
  · cases he

theorem convA_heap {P : Program} {src dst : TypeId} {h h' : Heap} {x z : AV} (he : convA P src dst h x = some (z, h')) : h' = h ∨ ∃ o, h' = h ++ [o] := by
  unfold convA at he
  repeat' split at he
  all_goals first
    | (cases he; done)
    | (simp only [Option.some.injEq, Prod.mk.injEq] at he; exact .inl he.2.symm)
    | (simp only [Option.some.injEq, Prod.mk.injEq] at he; exact .inr ⟨_, he.2.symm⟩)
    | (rename_i xs _ _ _ _; cases hq : bytesOf xs <;> simp [hq] at he <;> exact .inl he.2.symm)
    | (simp only [Option.map_eq_some_iff] at he; obtain ⟨s, _, he⟩ := he; cases he; exact .inl rfl)

end Go.Proofs.Ytpfdfilkhaoibaa.Ev

/-
  Slice literals, variables, stores, append, make.
-/
namespace Go.Proofs.Ytpfdfilkhaoibaa.Ev
open Go
set_option linter.unusedVariables false
set_option linter.unusedSimpArgs false

theorem VRelL.ones {m : M} : ∀ {cs : List AV} {vs : List Value}, VRelL m cs vs → cs.all AV.one = true → ∀ v ∈ vs, v.oneCell' = true
  | [], vs, h, _, v, hv => by simp only [VRelL] at h; subst h; cases hv
  | x :: cs, vs, h, ho, v, hv => by
    simp only [VRelL] at h
    obtain ⟨u, us, rfl, h1, h2⟩ := h
    simp only [List.all_cons, Bool.and_eq_true] at ho
    rcases List.mem_cons.1 hv with rfl | hv
    · exact (h1.one ho.1).2
    · exact VRelL.ones h2 ho.2 v hv

theorem prel_vals {m : M} : ∀ (parts : List (Nat × AV)) (cparts : List (Nat × Value)) (k : Nat), PRel m parts cparts → parts.map (·.1) = List.range' k parts.length →
    ∃ vals : List Value, cparts = (vals.zipIdx k).map (fun p => (p.2, p.1)) ∧ VRelL m (parts.map (·.2)) vals
  | [], cparts, k, hp, _ => by
    simp only [PRel] at hp; subst hp
    exact ⟨[], rfl, .nil⟩
  | (i, x) :: parts, cparts, k, hp, hk => by
    simp only [PRel] at hp
    obtain ⟨v, vs, rfl, h1, h2⟩ := hp
    simp only [List.map_cons, List.length_cons, List.range'_succ, List.cons.injEq] at hk
    obtain ⟨rfl, hk⟩ := hk
    obtain ⟨vals, rfl, h3⟩ := prel_vals parts vs _ h2 hk
    exact ⟨v :: vals, by simp, .cons h1 h3⟩

theorem splice_splice {α : Type} (cs : List α) (o : Nat) (xs ys : List α) (h : o + xs.length + ys.length ≤ cs.length) : splice (splice cs o xs) (o + xs.length) ys = splice cs o (xs ++ ys) := by
  apply List.ext_getElem?
  intro j
  rw [splice_get _ _ _ (by rw [splice_length _ _ _ (by omega)]; omega), splice_get _ _ _ (by omega), splice_get _ _ _ (by omega)]
  by_cases e1 : j < o
  · rw [if_pos (by omega), if_pos e1, if_pos e1]
  · rw [if_neg e1, if_neg e1]
    by_cases e2 : j < o + xs.length
    · rw [if_pos e2, if_pos e2, if_pos (by simp; omega), List.getElem?_append_left (by omega)]
    · rw [if_neg e2]
      by_cases e3 : j < o + xs.length + ys.length
      · rw [if_pos e3, if_pos (by simp; omega), List.getElem?_append_right (by omega)]
        congr 1; omega
      · rw [if_neg e3, if_neg e2, if_neg (by simp; omega)]

theorem fill_dense (n : Nat) : ∀ (vals : List Value) (k : Nat) (cells : Array Value), (∀ v ∈ vals, (VCells v).length = n) → (k + vals.length) * n ≤ cells.size →
    ∃ out, Instr.fill (fun i => some (i * n, n)) cells ((vals.zipIdx k).map fun p => (p.2, p.1)) = some out ∧ out.toList = splice cells.toList (k * n) (vals.flatMap VCells)
  | [], k, cells, _, _ => ⟨cells, by simp [Instr.fill], by simp [splice]⟩
  | v :: vals, k, cells, hs, hl => by
    have h1 := hs v (by simp)
    have h1' : v.cells.size = n := h1
    have hk : (k + 1) * n + vals.length * n ≤ cells.size := by
      simp only [List.length_cons] at hl
      have e : (k + (vals.length + 1)) * n = (k + 1) * n + vals.length * n := by rw [← Nat.add_mul]; congr 1; omega
      omega
    have hkn : (k + 1) * n = k * n + n := by rw [Nat.add_mul]; omega
    have hsp : (v.cells.zipIdx.foldl (fun cs (p : Value × Nat) => cs.setIfInBounds (k * n + p.2) p.1) cells).toList = splice cells.toList (k * n) (VCells v) := by
      rw [← Array.foldl_toList, Array.toList_zipIdx]
      have := foldl_splice v.cells.toList 0 (k * n) cells (by simp; omega)
      simp only [Nat.add_zero] at this
      exact this
    have hsz : (v.cells.zipIdx.foldl (fun cs (p : Value × Nat) => cs.setIfInBounds (k * n + p.2) p.1) cells).size = cells.size := by
      have := congrArg List.length hsp
      rw [splice_length _ _ _ (by rw [h1]; simp; omega)] at this
      simpa using this
    obtain ⟨out, k1, k2⟩ := fill_dense n vals (k + 1) _ (fun u hu => hs u (by simp [hu])) (by rw [hsz, Nat.add_mul]; exact hk)
    refine ⟨out, ?_, ?_⟩
    · simp only [List.zipIdx_cons, List.map_cons, Instr.fill]
      rw [if_neg (by simp; omega)]
      exact k1
    · rw [k2, hsp, List.flatMap_cons, hkn]
      have e2 : k * n + n = k * n + (VCells v).length := by omega
      rw [e2]
      have hfl := flatMap_length vals (fun u hu => hs u (by simp [hu]))
      exact splice_splice _ _ _ _ (by rw [h1, hfl]; simp; omega)

theorem buildSlice_run {P : Program} {m : M} {w : World} {t : TypeId} {len : Nat} {parts : List (Nat × AV)} {z : AV} (he : buildSliceA P t len parts = some z)
    {cparts : Array (Nat × Value)} (hp : PRel m parts cparts.toList) :
    ∃ e n vals, ∃ out : Array Value, P.underlying t = some (.slice e) ∧ tySize P e = some n ∧ z = .list (parts.map (·.2)) true (some len) none ∧ parts.length = len ∧ VRelL m (parts.map (·.2)) vals ∧ (∀ v ∈ vals, (VCells v).length = n) ∧ (∀ u ∈ vals.flatMap VCells, u.oneCell' = true) ∧
      (Instr.buildSlice t len cparts).run P w = .ok (.slice (some ⟨w.heap.size, 0, none⟩) len len) (w.alloc (.cells out e)) ∧ out.toList = vals.flatMap VCells := by
  unfold buildSliceA at he
  split at he
  · rename_i e hu
    split at he
    · rename_i n z0 hs hz
      split at he
      · rename_i hc
        simp only [Bool.and_eq_true, decide_eq_true_eq, beq_iff_eq, List.all_eq_true] at hc
        obtain ⟨⟨c1, c2⟩, c3⟩ := hc
        simp only [Option.some.injEq] at he
        subst he
        obtain ⟨i, zv, g1, g2, g3⟩ := tyZero_spec hz
        have hlen : parts.length = len := by have := congrArg List.length c2; simpa using this
        obtain ⟨vals, hv1, hv2⟩ := prel_vals parts cparts.toList 0 hp (by rw [hlen, ← List.range_eq_range']; exact c2)
        have hvl : vals.length = len := by have := hv2.length; simpa [hlen] using this
        have hvs : ∀ v ∈ vals, (VCells v).length = n := by
          intro v hv
          obtain ⟨x, hx, hr⟩ := hv2.forall_mem v hv
          rw [VCells_length hr]
          obtain ⟨p, hp', rfl⟩ := List.mem_map.1 hx
          exact (c3 p hp').1
        have hones : ∀ u ∈ vals.flatMap VCells, u.oneCell' = true := by
          intro u hu'
          obtain ⟨v, hv, huv⟩ := List.mem_flatMap.1 hu'
          obtain ⟨x, hx, hr⟩ := hv2.forall_mem v hv
          obtain ⟨p, hp', rfl⟩ := List.mem_map.1 hx
          exact hr.cells.ones (by simpa [List.all_eq_true] using (c3 p hp').2) u huv
        have hfl := flatMap_length vals hvs
        have key : ∀ zz : Array Value, ∃ out : Array Value, Instr.fill (fun i => some (i * n, n)) ((Array.range (len * n)).map (zz[· % zz.size]!)) cparts.toList = some out ∧ out.toList = vals.flatMap VCells := by
          intro zz
          obtain ⟨out, k1, k2⟩ := fill_dense n vals 0 ((Array.range (len * n)).map (zz[· % zz.size]!)) hvs (by simp [hvl])
          refine ⟨out, by rw [hv1]; exact k1, ?_⟩
          rw [k2]
          unfold splice
          simp only [Nat.zero_mul, List.take_zero, List.nil_append, Nat.zero_add]
          rw [List.drop_eq_nil_of_le (by simp [hfl, hvl])]
          simp
        have c1' : ¬ (16777216 < len * n) := by omega
        obtain ⟨ii, q1, q2⟩ := tySize_spec hs
        obtain ⟨out, hrun, hout⟩ : ∃ out : Array Value, (Instr.buildSlice t len cparts).run P w = .ok (.slice (some ⟨w.heap.size, 0, none⟩) len len) (w.alloc (.cells out e)) ∧ out.toList = vals.flatMap VCells := by
          by_cases h0 : len * n = 0
          · obtain ⟨out, k1, k2⟩ := key #[]
            refine ⟨out, ?_, k2⟩
            simp only [h0] at k1
            simp [Instr.buildSlice, run_underlying hu, run_sizeOf' hs, c1', h0]
            simp only [Array.range_zero', Array.map_empty] at k1
            simp [Array.range_zero', k1, newRow]
          · obtain ⟨out, k1, k2⟩ := key zv.cells
            refine ⟨out, ?_, k2⟩
            simp [Instr.buildSlice, run_underlying hu, run_sizeOf' hs, c1', h0, run_zeroValue' g1 g2, k1, newRow]
        exact ⟨e, n, vals, out, hu, hs, rfl, hlen, hv2, hvs, hones, hrun, hout⟩
      · cases he
    · cases he
  · cases he

theorem buildSliceA_ok {P : Program} {m : M} {h : Heap} {w : World} (hi : Inv m h w) {t : TypeId} {len : Nat} {parts : List (Nat × AV)} {z : AV} (he : buildSliceA P t len parts = some z)
    {cparts : Array (Nat × Value)} (hp : PRel m parts cparts.toList) :
    ∃ r w' m', (Instr.buildSlice t len cparts).run P w = .ok r w' ∧ Step w.heap.size m h w m' h w' ∧ VRel m' z r := by
  unfold buildSliceA at he
  split at he
  · rename_i e hu
    split at he
    · rename_i n z0 hs hz
      split at he
      · rename_i hc
        simp only [Bool.and_eq_true, decide_eq_true_eq, beq_iff_eq, List.all_eq_true] at hc
        obtain ⟨⟨c1, c2⟩, c3⟩ := hc
        simp only [Option.some.injEq] at he
        subst he
        obtain ⟨i, zv, g1, g2, g3⟩ := tyZero_spec hz
        have hlen : parts.length = len := by have := congrArg List.length c2; simpa using this
        obtain ⟨vals, hv1, hv2⟩ := prel_vals parts cparts.toList 0 hp (by rw [hlen, ← List.range_eq_range']; exact c2)
        have hvl : vals.length = len := by have := hv2.length; simpa [hlen] using this
        have hvs : ∀ v ∈ vals, (VCells v).length = n := by
          intro v hv
          obtain ⟨x, hx, hr⟩ := hv2.forall_mem v hv
          rw [VCells_length hr]
          obtain ⟨p, hp', rfl⟩ := List.mem_map.1 hx
          exact (c3 p hp').1
        have hones : ∀ u ∈ vals.flatMap VCells, u.oneCell' = true := by
          intro u hu'
          obtain ⟨v, hv, huv⟩ := List.mem_flatMap.1 hu'
          obtain ⟨x, hx, hr⟩ := hv2.forall_mem v hv
          obtain ⟨p, hp', rfl⟩ := List.mem_map.1 hx
          exact hr.cells.ones (by simpa [List.all_eq_true] using (c3 p hp').2) u huv
        have hfl := flatMap_length vals hvs
        have key : ∀ zz : Array Value, ∃ out : Array Value, Instr.fill (fun i => some (i * n, n)) ((Array.range (len * n)).map (zz[· % zz.size]!)) cparts.toList = some out ∧ out.toList = vals.flatMap VCells := by
          intro zz
          obtain ⟨out, k1, k2⟩ := fill_dense n vals 0 ((Array.range (len * n)).map (zz[· % zz.size]!)) hvs (by simp [hvl])
          refine ⟨out, by rw [hv1]; exact k1, ?_⟩
          rw [k2]
          unfold splice
          simp only [Nat.zero_mul, List.take_zero, List.nil_append, Nat.zero_add]
          rw [List.drop_eq_nil_of_le (by simp [hfl, hvl])]
          simp
        have c1' : ¬ (16777216 < len * n) := by omega
        obtain ⟨ii, q1, q2⟩ := tySize_spec hs
        obtain ⟨out, hrun, hout⟩ : ∃ out : Array Value, (Instr.buildSlice t len cparts).run P w = .ok (.slice (some ⟨w.heap.size, 0, none⟩) len len) (w.alloc (.cells out e)) ∧ out.toList = vals.flatMap VCells := by
          by_cases h0 : len * n = 0
          · obtain ⟨out, k1, k2⟩ := key #[]
            refine ⟨out, ?_, k2⟩
            simp only [h0] at k1
            simp [Instr.buildSlice, run_underlying hu, run_sizeOf' hs, c1', h0]
            simp only [Array.range_zero', Array.map_empty] at k1
            simp [Array.range_zero', k1, newRow]
          · obtain ⟨out, k1, k2⟩ := key zv.cells
            refine ⟨out, ?_, k2⟩
            simp [Instr.buildSlice, run_underlying hu, run_sizeOf' hs, c1', h0, run_zeroValue' g1 g2, k1, newRow]
        obtain ⟨m', s1, hcell, hmu, hrho, _⟩ := Step.newRow hi out e (0, 0) (vals.flatMap VCells).length (by rw [hout, List.take_length]; exact hones)
        refine ⟨_, _, m', hrun, s1, ?_⟩
        rw [hout, List.take_length] at hcell
        simp only [VRel]
        have hl2 : (parts.map (·.2)).length = len := by simp [hlen]
        exact .inr ⟨⟨w.heap.size, 0, none⟩, len, vals, n, by rw [hl2], fun _ => rfl, by rw [hl2]; exact Nat.le_refl _, VRelL.mono s1.le _ _ hv2, hvs, hcell, by simp, by simp⟩
      · cases he
    · cases he
  · cases he

theorem buildSliceT_ok {P : Program} {m : M} {h : Heap} {w : World} (hi : Inv m h w) {t : TypeId} {len : Nat} {parts : List (Nat × AV)} {z : AV} (hfresh : freshB P t len = true) (he : buildSliceA P t len parts = some z)
    {cparts : Array (Nat × Value)} (hp : PRel m parts cparts.toList) :
    ∃ r w' m', (Instr.buildSlice t len cparts).run P w = .ok r w' ∧ Step w.heap.size m h w m' (h ++ [.own len 1]) w' ∧ VRel m' (tokV h.length z) r := by
  unfold buildSliceA at he
  split at he
  · rename_i e hu
    split at he
    · rename_i n z0 hs hz
      split at he
      · rename_i hc
        simp only [Bool.and_eq_true, decide_eq_true_eq, beq_iff_eq, List.all_eq_true] at hc
        obtain ⟨⟨c1, c2⟩, c3⟩ := hc
        simp only [Option.some.injEq] at he
        subst he
        obtain ⟨i, zv, g1, g2, g3⟩ := tyZero_spec hz
        have hlen : parts.length = len := by have := congrArg List.length c2; simpa using this
        obtain ⟨vals, hv1, hv2⟩ := prel_vals parts cparts.toList 0 hp (by rw [hlen, ← List.range_eq_range']; exact c2)
        have hvl : vals.length = len := by have := hv2.length; simpa [hlen] using this
        have hvs : ∀ v ∈ vals, (VCells v).length = n := by
          intro v hv
          obtain ⟨x, hx, hr⟩ := hv2.forall_mem v hv
          rw [VCells_length hr]
          obtain ⟨p, hp', rfl⟩ := List.mem_map.1 hx
          exact (c3 p hp').1
        have hones : ∀ u ∈ vals.flatMap VCells, u.oneCell' = true := by
          intro u hu'
          obtain ⟨v, hv, huv⟩ := List.mem_flatMap.1 hu'
          obtain ⟨x, hx, hr⟩ := hv2.forall_mem v hv
          obtain ⟨p, hp', rfl⟩ := List.mem_map.1 hx
          exact hr.cells.ones (by simpa [List.all_eq_true] using (c3 p hp').2) u huv
        have hfl := flatMap_length vals hvs
        have key : ∀ zz : Array Value, ∃ out : Array Value, Instr.fill (fun i => some (i * n, n)) ((Array.range (len * n)).map (zz[· % zz.size]!)) cparts.toList = some out ∧ out.toList = vals.flatMap VCells := by
          intro zz
          obtain ⟨out, k1, k2⟩ := fill_dense n vals 0 ((Array.range (len * n)).map (zz[· % zz.size]!)) hvs (by simp [hvl])
          refine ⟨out, by rw [hv1]; exact k1, ?_⟩
          rw [k2]
          unfold splice
          simp only [Nat.zero_mul, List.take_zero, List.nil_append, Nat.zero_add]
          rw [List.drop_eq_nil_of_le (by simp [hfl, hvl])]
          simp
        have c1' : ¬ (16777216 < len * n) := by omega
        obtain ⟨ii, q1, q2⟩ := tySize_spec hs
        obtain ⟨out, hrun, hout⟩ : ∃ out : Array Value, (Instr.buildSlice t len cparts).run P w = .ok (.slice (some ⟨w.heap.size, 0, none⟩) len len) (w.alloc (.cells out e)) ∧ out.toList = vals.flatMap VCells := by
          by_cases h0 : len * n = 0
          · obtain ⟨out, k1, k2⟩ := key #[]
            refine ⟨out, ?_, k2⟩
            simp only [h0] at k1
            simp [Instr.buildSlice, run_underlying hu, run_sizeOf' hs, c1', h0]
            simp only [Array.range_zero', Array.map_empty] at k1
            simp [Array.range_zero', k1, newRow]
          · obtain ⟨out, k1, k2⟩ := key zv.cells
            refine ⟨out, ?_, k2⟩
            simp [Instr.buildSlice, run_underlying hu, run_sizeOf' hs, c1', h0, run_zeroValue' g1 g2, k1, newRow]
        have hn1 : n = 1 := by
          unfold freshB at hfresh
          simp only [hu, Bool.and_eq_true] at hfresh
          have h2 := hfresh.2
          split at h2
          · rw [hs] at h2
            simpa using h2
          · cases h2
        subst hn1
        have hol : out.size = len := by
          have := congrArg List.length hout
          rw [Array.length_toList, hfl, hvl, Nat.mul_one] at this
          exact this
        obtain ⟨m', s1, hcell, hrho⟩ := Step.newList hi out e (0, 0) len 1 len (Nat.le_refl _) (by rw [hol, Nat.mul_one]) (fun j hj => by simp) (by
          rw [Nat.mul_one, List.take_of_length_le (by rw [Array.length_toList, hol]; exact Nat.le_refl _), hout]; exact hones)
        refine ⟨_, _, m', hrun, s1, ?_⟩
        rw [Nat.mul_one, List.take_of_length_le (by rw [Array.length_toList, hol]; exact Nat.le_refl _), hout] at hcell
        have hl2 : (parts.map (·.2)).length = len := by simp [hlen]
        simp only [tokV, VRel]
        exact .inr ⟨⟨w.heap.size, 0, none⟩, len, vals, 1, by rw [hl2], fun _ => rfl, by rw [hl2]; exact Nat.le_refl _, VRelL.mono s1.le _ _ hv2, hvs, hcell, by simp, fun τ hτ => by simp only [Option.some.injEq] at hτ; subst hτ; rw [hl2]; exact hrho⟩
      · cases he
    · cases he
  · cases he

theorem VRelL.flatCells {m : M} : ∀ {xs : List AV} {vs : List Value}, VRelL m xs vs → VRelL m (xs.flatMap AV.cells) (vs.flatMap VCells)
  | [], _, h => by simp only [VRelL] at h; subst h; exact .nil
  | x :: xs, _, h => by
    simp only [VRelL] at h
    obtain ⟨v, vs, rfl, h1, h2⟩ := h
    simp only [List.flatMap_cons]
    exact h1.cells.append (VRelL.flatCells h2)

/-- A slice over a new array of the heap. -/
theorem Step.newArr {m : M} {h : Heap} {w : World} (hi : Inv m h w) (arr : Array Value) (e : TypeId) (cs : List AV) (hr : VRelL m cs (arr.toList.take cs.length)) (ho : ∀ v ∈ arr.toList, v.oneCell' = true) (len cap cap' n : Nat) (ex : Bool)
    (hl : len ≤ cap') (hc : cap ≤ cap') (hex : ex = true → cap = cap') (hs : 0 < n → cap' * n ≤ arr.size) :
    ∃ m', Step w.heap.size m h w m' (h ++ [.cells cs]) (w.alloc (.cells arr e)) ∧ VRel m' (.slice h.length 0 len cap n ex) (.slice (some ⟨w.heap.size, 0, none⟩) len cap') := by
  obtain ⟨m', s, h1, h2⟩ := Step.newVar hi arr e cs hr ho
  refine ⟨m', s, ?_⟩
  simp only [VRel]
  exact ⟨_, cap', h1, rfl, hl, hc, hex, fun hn => ⟨_, h2, by have := hs hn; omega⟩⟩

theorem buildSliceM_ok {P : Program} {m : M} {h h' : Heap} {w : World} (hi : Inv m h w) {t : TypeId} {len : Nat} {parts : List (Nat × AV)} {z : AV} (he : buildSliceM P t h len parts = some (z, h'))
    {cparts : Array (Nat × Value)} (hp : PRel m parts cparts.toList) :
    ∃ r w' m', (Instr.buildSlice t len cparts).run P w = .ok r w' ∧ Step w.heap.size m h w m' h' w' ∧ VRel m' z r ∧ (h' = h ∨ ∃ o, h' = h ++ [o]) := by
  unfold buildSliceM at he
  split at he
  · rename_i e hu
    split at he
    · rename_i n v hs hb
      split at he
      · rename_i h0
        simp only [Option.some.injEq, Prod.mk.injEq] at he
        obtain ⟨rfl, rfl⟩ := he
        obtain ⟨r, w', m', k1, k2, k3⟩ := buildSliceA_ok hi hb hp
        exact ⟨r, w', m', k1, k2, k3, .inl rfl⟩
      · rename_i h0
        simp only [Option.some.injEq, Prod.mk.injEq] at he
        obtain ⟨rfl, rfl⟩ := he
        obtain ⟨e', n', vals, out, q1, q2, q3, q4, q5, q6, q7, q8, q9⟩ := buildSlice_run (P := P) (w := w) hb hp
        rw [hu] at q1
        cases q1
        rw [hs] at q2
        cases q2
        have hfl := flatMap_length vals q6
        have hvl := q5.length
        simp only [List.length_map] at hvl
        have hlen : (((parts.map (·.2)).flatMap AV.cells)).length = (vals.flatMap VCells).length := q5.flatCells.length.symm
        have hsz : out.size = len * n := by
          have := congrArg List.length q9
          rw [Array.length_toList, hfl] at this
          rw [this, hvl, q4]
        obtain ⟨m', s, hv⟩ := Step.newArr hi out e ((parts.map (·.2)).flatMap AV.cells) (by rw [hlen, q9, List.take_length]; exact q5.flatCells) (by rw [q9]; exact q7) len len len n true (Nat.le_refl _) (Nat.le_refl _) (fun _ => rfl) (fun _ => by omega)
        exact ⟨_, _, m', q8, s, hv, .inr ⟨_, rfl⟩⟩
    · cases he
  · cases he

theorem newVar_ok {m : M} {h : Heap} {w : World} (hi : Inv m h w) {x : AV} {v : Value} (hx : VRel m x v) (ho : x.cells.all AV.one = true) (t : TypeId) (P : Program) :
    ∃ m', (newVar t v).run P w = .ok ⟨w.heap.size, 0, none⟩ (w.alloc (.cells v.cells t)) ∧ Step w.heap.size m h w m' (h ++ [.cells x.cells]) (w.alloc (.cells v.cells t)) ∧
      VRel m' (.ptr h.length 0) (.pointer (some ⟨w.heap.size, 0, none⟩)) := by
  obtain ⟨m', s, hmu, _⟩ := Step.newVar hi v.cells t x.cells (by rw [List.take_of_length_le (by have := VCells_length hx; simp only [VCells] at this; omega)]; exact hx.cells) (hx.cells.ones ho)
  refine ⟨m', by simp [newVar, newRow], s, ?_⟩
  simp only [VRel]
  exact ⟨_, hmu, rfl⟩

theorem storeA_ok {P : Program} {m : M} {h h' : Heap} {w : World} (hi : Inv m h w) {t : TypeId} {x y : AV} {b : Nat} (he : storeA P t h x y = some (h', b)) {u v : Value} (hx : VRel m x u) (hy : VRel m y v) :
    ∃ w', (Instr.storeAt t u v).run P w = .ok () w' ∧ Step w.heap.size m h w m h' w' ∧ h' = h.set b (h'.getD b default) := by
  unfold storeA at he
  split at he
  · rename_i bb o
    split at he
    · rename_i cs hb
      split at he
      · rename_i hc
        simp only [Bool.and_eq_true, decide_eq_true_eq, beq_iff_eq] at hc
        obtain ⟨⟨c1, c2⟩, c3⟩ := hc
        simp only [Option.some.injEq, Prod.mk.injEq] at he
        obtain ⟨rfl, rfl⟩ := he
        simp only [VRel] at hx
        obtain ⟨c, hm, rfl⟩ := hx
        obtain ⟨c', cvs, tt, k1, k2, k3, k4, k5⟩ := hi.var bb cs hb
        rw [hm] at k1
        cases k1
        have hyl := VCells_length hy
        have hcl := k3.length
        have hones := hy.cells.ones c3
        have hcs : cs.length ≤ cvs.size := by simp at hcl; omega
        have s := Step.set (B := w.heap.size) hi hb hm o y.cells (VCells v) hy.cells hones (by omega) (fun cvs' t' e => by rw [k2] at e; cases e; omega)
        refine ⟨_, ?_, s, ?_⟩
        · have hst := run_storeCells_cells (P := P) c o (VCells v) 0 w (fun j hj => by
              rw [Nat.add_zero, cell_row k2]
              have : o + j < cvs.size := by simp at hcl; omega
              simp [this]) (fun j hj => by unfold World.frozen?; rw [Nat.add_zero, k2]; simp) hones
          simp only [Nat.add_zero] at hst
          have hsz : v.cells.size = y.cells.length := hyl
          have h2 := run_sizeOf' (P := P) c1 w
          simp only [Instr.storeAt, Instr.sureAddr, Sem.run_bind, Sem.run_pure, Result.andThen_ok, storeVar, h2]
          rw [if_neg (by omega)]
          exact hst
        · have hbl := (List.getElem?_eq_some_iff.1 hb).1
          apply List.ext_getElem?
          intro i
          by_cases e : bb = i
          · subst e
            rw [List.getElem?_set_self (by simpa using hbl), List.getElem?_set_self (by simpa using hbl)]
            simp [List.getD, hbl]
          · rw [List.getElem?_set_ne e, List.getElem?_set_ne e]
      · cases he
    · cases he
  · cases he

end Go.Proofs.Ytpfdfilkhaoibaa.Ev

/-
  append and make.
-/
namespace Go.Proofs.Ytpfdfilkhaoibaa.Ev
open Go
set_option linter.unusedVariables false
set_option linter.unusedSimpArgs false

theorem one_cells {v : Value} (h : v.oneCell' = true) : VCells v = [v] := by
  cases v <;> first | rfl | (simp [Value.oneCell'] at h)

def mkV : List Value → Value
  | [v] => v
  | l => .agg l.toArray
def chunkV (n : Nat) : Nat → List Value → List Value
  | 0, _ => []
  | k + 1, l => mkV (l.take n) :: chunkV n k (l.drop n)
theorem mk_rel {m : M} {xs : List AV} {vs : List Value} (h : VRelL m xs vs) : VRel m (mkE xs) (mkV vs) := by
  match xs, vs, h with
  | [], vs, h =>
    simp only [VRelL] at h
    subst h
    simp only [mkE, mkV, VRel]
    exact ⟨#[], rfl, .nil⟩
  | [x], vs, h =>
    simp only [VRelL] at h
    obtain ⟨v, vs', rfl, h1, rfl⟩ := h
    exact h1
  | x :: y :: xs, vs, h =>
    have h' := h
    simp only [VRelL] at h
    obtain ⟨v, vs1, rfl, h1, v2, vs2, rfl, h2⟩ := h
    simp only [mkE, mkV, VRel]
    exact ⟨_, rfl, by simpa using h'⟩
theorem mkV_cells {l : List Value} (h : ∀ v ∈ l, v.oneCell' = true) : VCells (mkV l) = l := by
  match l, h with
  | [], _ => rfl
  | [v], h => exact one_cells (h v (by simp))
  | _ :: _ :: _, _ => simp [mkV, VCells, Value.cells]
theorem chunk_rel {m : M} {n : Nat} : ∀ (k : Nat) {cs : List AV} {l : List Value}, VRelL m cs l → (∀ v ∈ l, v.oneCell' = true) → k * n ≤ cs.length →
    VRelL m (chunkA n k cs) (chunkV n k l) ∧ (∀ v ∈ chunkV n k l, (VCells v).length = n) ∧ (chunkV n k l).flatMap VCells = l.take (k * n)
  | 0, cs, l, _, _, _ => ⟨.nil, by simp [chunkV], by simp [chunkV]⟩
  | k + 1, cs, l, hr, ho, hk => by
    have hl := hr.length
    have hk' : k * n + n ≤ cs.length := by rw [Nat.add_mul] at hk; omega
    obtain ⟨h1, h2, h3⟩ := chunk_rel (n := n) k (hr.drop n) (fun v hv => ho v (List.mem_of_mem_drop hv)) (by simp; omega)
    have hc : VCells (mkV (l.take n)) = l.take n := mkV_cells fun v hv => ho v (List.mem_of_mem_take hv)
    refine ⟨.cons (mk_rel (hr.take n)) h1, ?_, ?_⟩
    · intro v hv
      rcases List.mem_cons.1 hv with rfl | hv
      · rw [hc]; simp; omega
      · exact h2 v hv
    · simp only [chunkV, List.flatMap_cons, hc, h3]
      rw [Nat.add_mul, Nat.one_mul, Nat.add_comm, List.take_add]
theorem chunkA_length (n : Nat) : ∀ (k : Nat) (cs : List AV), (chunkA n k cs).length = k
  | 0, _ => rfl
  | k + 1, cs => by simp [chunkA, chunkA_length n k]

theorem elems_run {P : Program} {m : M} {h : Heap} {w : World} (hi : Inv m h w) {n : Nat} {src : AV} {ys : List AV} (he : elemsA h n src = some ys) {u : Value} (hx : VRel m src u) :
    ∃ cys : List Value, VRelL m ys cys ∧ (∀ v ∈ cys, (VCells v).length = n) ∧ (∀ c ∈ cys.flatMap VCells, c.oneCell' = true) ∧
      ∀ w' : World, w'.heap = w.heap → (Builtin.lenOf u).run P w' = .ok ys.length w' ∧ ∀ k, k ≤ ys.length → (Builtin.firstCells n k u).run P w' = .ok ((cys.take k).flatMap VCells).toArray w' := by
  unfold elemsA at he
  split at he
  · simp only [Option.some.injEq] at he; subst he
    simp only [VRel] at hx; subst hx
    exact ⟨[], .nil, by simp, by simp, fun w' _ => ⟨by simp [Builtin.lenOf], by simp [Builtin.firstCells]⟩⟩
  · rename_i xs nn cap tok
    split at he
    · rename_i hok
      simp only [Option.some.injEq] at he; subst he
      simp only [VRel] at hx
      rcases hx with ⟨rfl, _, _, _, rfl⟩ | ⟨a, cap', cvs, s, rfl, g2, g3, g4, g5, g6, g7, g8⟩
      · exact ⟨[], .nil, by simp, by simp, fun w' _ => ⟨by simp [Builtin.lenOf], by simp [Builtin.firstCells]⟩⟩
      · have hl := g4.length
        have hn : ∀ v ∈ cvs, (VCells v).length = n := by
          rcases headOk_spec g4 g5 hok with h0 | rfl
          · subst h0
            simp only [VRelL] at g4
            subst g4
            simp
          · exact g5
        refine ⟨cvs, g4, hn, ?_, fun w' hw' => ⟨by simp [Builtin.lenOf], fun k hk => ?_⟩⟩
        · intro c hc
          obtain ⟨i, hic⟩ := List.mem_iff_getElem?.1 hc
          exact hi.fone _ _ (g6 i c hic)
        · have hsn : ((cvs.take k).flatMap VCells).length = k * n := by
            rw [flatMap_length (cvs.take k) (fun v hv => hn v (List.mem_of_mem_take hv)), List.length_take]
            congr 1; omega
          have := run_loadCells_list (P := P) w' a ((cvs.take k).flatMap VCells) (fun j v hv => by
            rw [flatMap_take cvs k hn] at hv
            have hv' := take_get hv
            rw [Addr.add_none a (spot_of g2 g3 g4 hv'), cell?_heap hw']; exact hi.f _ _ (g6 j v hv'))
          rw [hsn] at this
          simpa [Builtin.firstCells] using this
    · cases he
  · rename_i s
    split at he
    · rename_i hn
      subst hn
      simp only [Option.some.injEq] at he; subst he
      simp only [VRel] at hx
      obtain ⟨b, rfl, rfl⟩ := hx
      have h1 : ∀ v ∈ b.data.toList.map (fun c => Value.int .u8 (c.toNat : Int)), VCells v = [v] := by
        intro v hv; obtain ⟨c, _, rfl⟩ := List.mem_map.1 hv; rfl
      refine ⟨_, ofBytes_rel _, ?_, ?_, fun w' _ => ⟨?_, fun k hk => ?_⟩⟩
      · intro v hv; rw [h1 v hv]; rfl
      · rw [flatMap_one _ h1]; intro v hv; obtain ⟨c, _, rfl⟩ := List.mem_map.1 hv; rfl
      · simp [Builtin.lenOf, ofBytes]
      · rw [flatMap_one _ (fun v hv => h1 v (List.mem_of_mem_take hv))]
        simp only [Builtin.firstCells, Sem.run_pure]
        congr 1
        apply Array.ext'
        simp [Lib.extract_data]
    · cases he
  · rename_i b o len cap nn ex
    split at he
    · rename_i cs hb
      split at he
      · rename_i hle
        simp only [Option.some.injEq] at he; subst he
        simp only [VRel] at hx
        obtain ⟨c, cap', hm, rfl, _⟩ := hx
        obtain ⟨c', cvs, t', k1, k2, k3, k4, k5, _⟩ := hi.var b cs hb
        rw [hm] at k1
        cases k1
        have hcl := k3.length
        obtain ⟨r1, r2, r3⟩ := chunk_rel (n := n) len (k3.drop o) (fun v hv => k5 v (List.mem_of_mem_take (List.mem_of_mem_drop hv))) (by simp; omega)
        refine ⟨_, r1, r2, ?_, fun w' hw' => ⟨by simp [Builtin.lenOf, chunkA_length], fun k hk => ?_⟩⟩
        · rw [r3]
          intro v hv
          exact k5 v (List.mem_of_mem_take (List.mem_of_mem_drop (List.mem_of_mem_take hv)))
        · rw [chunkA_length] at hk
          have e1 : ((chunkV n len (((cvs.toList.take cs.length).drop o))).take k).flatMap VCells = ((cvs.toList.take cs.length).drop o).take (k * n) := by
            rw [flatMap_take _ k r2, r3, List.take_take]
            congr 1
            exact Nat.min_eq_left (Nat.mul_le_mul_right _ hk)
          rw [e1]
          have hkn : k * n ≤ len * n := Nat.mul_le_mul_right _ hk
          have := run_loadCells_list (P := P) w' ⟨c, o, none⟩ (((cvs.toList.take cs.length).drop o).take (k * n)) (fun j v hv => by
            rw [Addr.add_mid, cell?_heap hw', cell_row k2]
            have h2 := take_get hv
            rw [List.getElem?_drop] at h2
            simpa using take_get h2)
          have hl2 : (((cvs.toList.take cs.length).drop o).take (k * n)).length = k * n := by simp at hcl ⊢; omega
          rw [hl2] at this
          simpa [Builtin.firstCells] using this
      · cases he
    · cases he
  · cases he

theorem ofCell_one : ∀ (v : Value) (x : AV), ofCell v = some x → x.one = true := by
  intro v x h
  unfold ofCell at h
  split at h <;> first | (cases h; done) | (simp only [Option.some.injEq] at h; subst h; rfl)
theorem mapM_one : ∀ (l : List Value) (xs : List AV), l.mapM ofCell = some xs → xs.all AV.one = true
  | [], xs, h => by simp at h; subst h; rfl
  | v :: l, xs, h => by
    rw [List.mapM_cons] at h
    cases hv : ofCell v with
    | none => simp [hv] at h
    | some y =>
      cases hl : l.mapM ofCell with
      | none => simp [hv, hl] at h
      | some ys =>
        simp [hv, hl] at h
        subst h
        simp only [List.all_cons, ofCell_one v y hv, mapM_one l ys hl, Bool.and_self]
theorem tyZero_ones {P : Program} {t : TypeId} {z : AV} (h : tyZero P t = some z) : z.cells.all AV.one = true := by
  unfold tyZero at h
  obtain ⟨i, _, h⟩ := Option.bind_eq_some_iff.1 h
  obtain ⟨v, _, h⟩ := Option.bind_eq_some_iff.1 h
  unfold ofConst at h
  split at h
  · obtain ⟨xs, hxs, rfl⟩ := Option.map_eq_some_iff.1 h
    exact mapM_one _ _ hxs
  · have := ofCell_one _ _ h
    cases z <;> simp_all [AV.cells, AV.one]

theorem zeroCells_list (z : Array Value) (k : Nat) : (Builtin.zeroCells z k).toList = (List.replicate k z.toList).flatten := by
  simp only [Builtin.zeroCells, Array.toList_map, Array.toList_range]
  by_cases hz : z.size = 0
  · have : z = #[] := Array.eq_empty_of_size_eq_zero hz
    subst this
    simp
  induction k with
  | zero => simp
  | succ k ih =>
    have e : (k + 1) * z.size = k * z.size + z.size := by rw [Nat.add_mul]; omega
    rw [e, List.range_add, List.map_append, ih, List.replicate_succ', List.flatten_append]
    congr 1
    apply List.ext_getElem?
    intro j
    simp only [List.map_map, List.getElem?_map, List.flatten_cons, List.flatten_nil, List.append_nil, Array.getElem?_toList]
    by_cases hj : j < z.size
    · rw [List.getElem?_range hj]
      simp only [Option.map_some, Function.comp]
      have : (k * z.size + j) % z.size = j := by rw [Nat.add_comm, Nat.add_mul_mod_self_right, Nat.mod_eq_of_lt hj]
      rw [this, getElem!_pos z j hj, getElem?_pos z j hj]
    · rw [List.getElem?_eq_none (by simpa using hj), Array.getElem?_eq_none (by omega)]
      rfl
theorem zeroCells_ones {z : Array Value} (h : ∀ v ∈ z.toList, v.oneCell' = true) (k : Nat) : ∀ v ∈ (Builtin.zeroCells z k).toList, v.oneCell' = true := by
  rw [zeroCells_list]
  intro v hv
  obtain ⟨l, hl, hv⟩ := List.mem_flatten.1 hv
  rw [List.eq_of_mem_replicate hl] at hv
  exact h v hv

/-- Room enough (or nothing to append). -/
theorem run_append_in {P : Program} {w w' : World} {t u ty e : TypeId} {ud : TypeDesc} (ht : P.underlying t = some (.slice e)) (hu : P.underlying u = some ud) (hni : ud = .string ∨ ∃ e', ud = .slice e') {n : Nat} (hn : tySize P e = some n)
    {base : Option Addr} {sLen sCap k : Nat} {x : Value} {news : List Value} (hl : (Builtin.lenOf x).run P w = .ok k w) (hf : (Builtin.firstCells n k x).run P w = .ok news.toArray w)
    (hroom : sLen + k ≤ sCap) (hst : ∀ a, base = some a → (storeCells (a.add (sLen * n)) news).run P w = .ok () w') (hb : base = none → w' = w) :
    (Builtin.append_ #[t, u] ty #[.slice base sLen sCap, x]).run P w = .ok (.slice base (sLen + k) sCap) w' := by
  cases base with
  | none =>
    have := hb rfl
    subst this
    rcases hni with rfl | ⟨e', rfl⟩ <;> simp [Builtin.append_, run_underlying ht, run_underlying hu, run_sizeOf' hn, hl, hf, hroom]
  | some a =>
    have := hst a rfl
    rcases hni with rfl | ⟨e', rfl⟩ <;> simp [Builtin.append_, run_underlying ht, run_underlying hu, run_sizeOf' hn, hl, hf, hroom, this]

/-- No room: a new row. -/
theorem run_append_out {P : Program} {w : World} {t u ty e : TypeId} {ud : TypeDesc} (ht : P.underlying t = some (.slice e)) (hu : P.underlying u = some ud) (hni : ud = .string ∨ ∃ e', ud = .slice e') {i : TypeInfo} {z : Value} (hi : P.info? e = some i) (hz : i.zero = some z)
    {base : Option Addr} {sLen sCap k : Nat} {x : Value} {olds news : List Value} (hl : (Builtin.lenOf x).run P w = .ok k w) (hf : (Builtin.firstCells i.size k x).run P w.drew = .ok news.toArray w.drew)
    (ho : (Builtin.firstCells i.size sLen (.slice base sLen sCap)).run P w.drew = .ok olds.toArray w.drew)
    (hroom : sCap < sLen + k) (h63 : sLen + k ≤ 9223372036854775807) (hfit : Builtin.nextslicecap (sLen + k) sCap * i.bytes ≤ 281474976710656) :
    (Builtin.append_ #[t, u] ty #[.slice base sLen sCap, x]).run P w =
      .ok (.slice (some ⟨w.heap.size, 0, none⟩) (sLen + k) (grownCap w (sLen + k) sCap e))
        (w.drew.alloc (.cells (olds.toArray ++ (news.toArray ++ Builtin.zeroCells z.cells (grownCap w (sLen + k) sCap e - (sLen + k)))) e)) := by
  have hn : ¬ (sLen + k ≤ sCap) := by omega
  have h63' : ¬ (9223372036854775807 < ((sLen : Int) + (k : Int))) := by omega
  have h48' : ¬ (281474976710656 < Builtin.nextslicecap (sLen + k) sCap * i.bytes) := by omega
  rcases hni with rfl | ⟨e', rfl⟩ <;> simp [Builtin.append_, run_underlying ht, run_underlying hu, sizeOf, typeInfo, zeroValue, hi, hz, hl, hn, h63', h48', Question.forced, hf, ho, newRow, grownCap, IntKind.max, IntKind.signed, IntKind.bits]

theorem VRelL.flat {m : M} {xs : List AV} {cvs : List Value} (h : VRelL m xs cvs) : cvs.length = xs.length := h.length

/-- The list's own cells, as append reads them. -/
theorem firstCells_list {P : Program} {m : M} {h : Heap} {w : World} (hi : Inv m h w) {xs : List AV} {cvs : List Value} {s n : Nat} {a : Addr} {cap' : Nat} (g2 : cap' ≠ 0 → a.spot = none) (g3 : xs.length ≤ cap') (g4 : VRelL m xs cvs)
    (g5 : ∀ cv ∈ cvs, (VCells cv).length = s) (g6 : CellsF m.F a (cvs.flatMap VCells)) (hok : headOk n xs = true) {w' : World} (hw : w'.heap = w.heap) :
    (Builtin.firstCells n xs.length (.slice (some a) xs.length cap')).run P w' = .ok (cvs.flatMap VCells).toArray w' ∧ (cvs.flatMap VCells).length = xs.length * n := by
  have hl := g4.length
  have hsn : (cvs.flatMap VCells).length = xs.length * n := by
    rw [flatMap_length cvs g5, hl]
    rcases headOk_spec g4 g5 hok with h0 | rfl
    · subst h0; simp
    · rfl
  have := run_loadCells_list (P := P) w' a (cvs.flatMap VCells) (fun j v hv => by
    rw [Addr.add_none a (spot_of g2 g3 g4 hv), cell?_heap hw]; exact hi.f _ _ (g6 j v hv))
  rw [hsn] at this
  exact ⟨by simpa [Builtin.firstCells] using this, hsn⟩

theorem grown_bound (w : World) (need old : Nat) (e : TypeId) : need ≤ grownCap w need old e := grownCap_ge w need old e

/-- A list that has been copied to a new row reads as what was copied. -/
theorem rel_moved {m' : M} {xs : List AV} {cvs : List Value} {n cap τ c : Nat} (hr : VRelL m' xs cvs) (hs : ∀ v ∈ cvs, (VCells v).length = n) {arr : List Value} (hc : CellsF m'.F ⟨c, 0, none⟩ (arr.take (xs.length * n)))
    (ha : arr.take (xs.length * n) = cvs.flatMap VCells) (hle : xs.length ≤ cap) (hrho : m'.rho τ xs.length = some (⟨c, 0, none⟩, cap)) :
    VRel m' (.list xs true none (some τ)) (.slice (some ⟨c, 0, none⟩) xs.length cap) := by
  simp only [VRel]
  refine .inr ⟨⟨c, 0, none⟩, cap, cvs, n, rfl, fun _ => rfl, hle, hr, hs, by rw [← ha]; exact hc, by simp, ?_⟩
  intro τ' hτ
  simp only [Option.some.injEq] at hτ
  subst hτ
  exact hrho

/-- What append does with what is appended. -/
structure News (P : Program) (t u ty e : TypeId) (n by_ : Nat) (zv : Value) (w : World) (k : Nat) (x : Value) (news : List Value) : Prop where
  into : ∀ (base : Option Addr) (sLen sCap : Nat) (w' : World), sLen + k ≤ sCap → (∀ a, base = some a → (storeCells (a.add (sLen * n)) news).run P w = .ok () w') → (base = none → w' = w) →
    (Builtin.append_ #[t, u] ty #[.slice base sLen sCap, x]).run P w = .ok (.slice base (sLen + k) sCap) w'
  out : ∀ (base : Option Addr) (sLen sCap : Nat) (olds : List Value), (Builtin.firstCells n sLen (.slice base sLen sCap)).run P w.drew = .ok olds.toArray w.drew → sCap < sLen + k → (sLen + k) * by_ ≤ 35184372088832 → sLen + k ≤ 35184372088832 →
    (Builtin.append_ #[t, u] ty #[.slice base sLen sCap, x]).run P w =
      .ok (.slice (some ⟨w.heap.size, 0, none⟩) (sLen + k) (grownCap w (sLen + k) sCap e))
        (w.drew.alloc (.cells (olds.toArray ++ (news.toArray ++ Builtin.zeroCells zv.cells (grownCap w (sLen + k) sCap e - (sLen + k)))) e))

theorem VRelL.rep {m : M} {x : AV} {v : Value} (hx : VRel m x v) (n : Nat) : VRelL m (List.replicate n x) (List.replicate n v) := VRelL.replicate hx n

theorem news_run {P : Program} {m : M} {h : Heap} {w : World} (hi : Inv m h w) {t u ty e : TypeId} {ud : TypeDesc} (ht : P.underlying t = some (.slice e)) (hu : P.underlying u = some ud) {i : TypeInfo} {zv : Value} {z : AV} {n by_ : Nat}
    (q1 : P.info? e = some i) (q2 : i.zero = some zv) (hz : VRel m z zv) (hzo : z.cells.all AV.one = true) (hn : tySize P e = some n) (hby : i.bytes = by_) (hsz : i.size = n) (hzl : z.cells.length = n) {src : AV} {ys : List AV} (he : newsA ud h n by_ z src = some ys) {v : Value} (hy : VRel m src v) :
    ∃ cys : List Value, VRelL m ys cys ∧ (∀ v ∈ cys, (VCells v).length = n) ∧ (∀ c ∈ cys.flatMap VCells, c.oneCell' = true) ∧ News P t u ty e n by_ zv w ys.length v (cys.flatMap VCells) := by
  have hzs : zv.cells.size = n := by have := VCells_length hz; simp only [VCells, Array.length_toList] at this; omega
  have hs0 : ∀ w : World, (sizeOf e).run P w = .ok n w := run_sizeOf' hn
  unfold newsA at he
  split at he
  · rename_i k l
    split at he
    · rename_i hl
      simp only [Option.some.injEq] at he
      subst he
      rw [hy.int']
      have hfl : (List.replicate l.toNat zv).flatMap VCells = (List.replicate l.toNat zv.cells.toList).flatten := by
        rw [List.flatMap, List.map_replicate]; rfl
      have hzc : ∀ k, (Builtin.zeroCells zv.cells k).size = k * n := fun k => by simp [Builtin.zeroCells, hzs]
      have hwrap : IntKind.i64.wrap l = l := by
        simp only [IntKind.wrap, IntKind.bits, IntKind.signed]
        simp
        omega
      have hl0 : ¬ l < 0 := by omega
      have e0 : (Builtin.zeroCells zv.cells l.toNat) = ((List.replicate l.toNat zv).flatMap VCells).toArray := by
        rw [hfl, ← zeroCells_list]
      have hnil : l.toNat * n = 0 → (List.replicate l.toNat zv).flatMap VCells = [] := by
        intro h0
        have : (Builtin.zeroCells zv.cells l.toNat) = #[] := Array.eq_empty_of_size_eq_zero (by rw [hzc]; exact h0)
        rw [this] at e0
        simpa using e0.symm
      refine ⟨List.replicate l.toNat zv, VRelL.replicate hz _, ?_, ?_, ⟨?_, ?_⟩⟩
      · intro v hv; rw [List.eq_of_mem_replicate hv]; exact hzs
      · intro c hc
        obtain ⟨v, hv, hc⟩ := List.mem_flatMap.1 hc
        rw [List.eq_of_mem_replicate hv] at hc
        exact hz.cells.ones hzo c hc
      · intro base sLen sCap w' hroom hst hb
        simp only [List.length_replicate] at hroom ⊢
        have h48 : ¬ (281474976710656 < l * (i.bytes : Int)) := by rw [hby]; omega
        by_cases h0 : l.toNat * n = 0
        · rw [hnil h0] at hst
          cases base with
          | none =>
            have := hb rfl
            subst this
            simp [Builtin.append_, run_underlying ht, run_underlying hu, hs0, asInt, asIntOf, hwrap, hl0, typeInfo, q1, h48, hroom, h0]
          | some a =>
            have := hst a rfl
            simp [Builtin.append_, run_underlying ht, run_underlying hu, hs0, asInt, asIntOf, hwrap, hl0, typeInfo, q1, h48, hroom, h0, this]
        · cases base with
          | none =>
            have := hb rfl
            subst this
            simp [Builtin.append_, run_underlying ht, run_underlying hu, hs0, asInt, asIntOf, hwrap, hl0, typeInfo, q1, h48, hroom, h0, run_zeroValue' q1 q2]
          | some a =>
            have := hst a rfl
            simp [Builtin.append_, run_underlying ht, run_underlying hu, hs0, asInt, asIntOf, hwrap, hl0, typeInfo, q1, h48, hroom, h0, run_zeroValue' q1 q2, e0, this]
      · intro base sLen sCap olds ho hroom hb1 hb2
        simp only [List.length_replicate] at hroom hb1 hb2 ⊢
        have h48 : ¬ (281474976710656 < l * (i.bytes : Int)) := by rw [hby]; omega
        have hfit := growslice_fits hroom (bytes := i.bytes) (by rw [hby]; omega)
        have hn' : ¬ (sLen + l.toNat ≤ sCap) := by omega
        have h63' : ¬ (9223372036854775807 < ((sLen : Int) + max l 0)) := by omega
        have h48' : ¬ (281474976710656 < Builtin.nextslicecap (sLen + l.toNat) sCap * i.bytes) := by omega
        by_cases h0 : l.toNat * n = 0
        · simp [Builtin.append_, run_underlying ht, run_underlying hu, hs0, asInt, asIntOf, hwrap, hl0, typeInfo, zeroValue, q1, q2, h48, hn', h63', h48', Question.forced, ho, newRow, grownCap, IntKind.max, IntKind.signed, IntKind.bits, h0, hnil h0]
        · simp [Builtin.append_, run_underlying ht, run_underlying hu, hs0, asInt, asIntOf, hwrap, hl0, typeInfo, zeroValue, q1, q2, h48, hn', h63', h48', Question.forced, ho, newRow, grownCap, IntKind.max, IntKind.signed, IntKind.bits, h0, e0]
    · cases he
  · cases he
  · rename_i hni
    split at he
    · rename_i hud
      have hud' : ud = .string ∨ ∃ e', ud = .slice e' := by
        cases ud <;> simp [appendable] at hud ⊢
      obtain ⟨cys, e1, e2, e3, e4⟩ := elems_run (P := P) hi he hy
      have hcl := e1.length
      have hk : cys.take ys.length = cys := List.take_of_length_le (by omega)
      obtain ⟨l1, l1'⟩ := e4 w rfl
      have l1' := l1' _ (Nat.le_refl _)
      obtain ⟨_, l2⟩ := e4 w.drew rfl
      have l2 := l2 _ (Nat.le_refl _)
      rw [hk] at l1' l2
      refine ⟨cys, e1, e2, e3, ⟨fun base sLen sCap w' hroom hst hb => run_append_in ht hu hud' hn l1 l1' hroom hst hb, fun base sLen sCap olds ho hroom hb1 hb2 => ?_⟩⟩
      exact run_append_out ht hu hud' q1 q2 l1 (by rw [hsz]; exact l2) (by rw [hsz]; exact ho) hroom (by omega) (growslice_fits hroom (by rw [hby]; omega))
    · cases he

/-- A new row behind append. -/
theorem row_facts {w : World} {e : TypeId} {n need sCap : Nat} {zv : Value} {olds news : List Value} (hzs : zv.cells.size = n) (hl : olds.length + news.length = need * n) :
    (olds.toArray ++ (news.toArray ++ Builtin.zeroCells zv.cells (grownCap w need sCap e - need))).size = grownCap w need sCap e * n ∧
    (olds.toArray ++ (news.toArray ++ Builtin.zeroCells zv.cells (grownCap w need sCap e - need))).toList.take (need * n) = olds ++ news := by
  have hge := grownCap_ge w need sCap e
  have hzc : ∀ k, (Builtin.zeroCells zv.cells k).size = k * n := fun k => by simp [Builtin.zeroCells, hzs]
  refine ⟨?_, ?_⟩
  · simp only [Array.size_append, hzc, List.size_toArray]
    rw [← Nat.add_assoc, hl, ← Nat.add_mul]
    congr 1; omega
  · simp only [Array.toList_append]
    rw [← List.append_assoc, List.take_append_of_le_length (by simp [hl])]
    exact List.take_of_length_le (by simp [hl])

/-- A slice over a new array, behind append. -/
theorem Step.grown {m : M} {h : Heap} {w : World} (hi : Inv m h w) {e : TypeId} {n need sCap : Nat} {zv : Value} {z : AV} (hz : VRel m z zv) (hzo : z.cells.all AV.one = true) (hzl : z.cells.length = n) {olds news : List Value} (hl : olds.length + news.length = need * n)
    (ho : ∀ c ∈ olds ++ news, c.oneCell' = true) {cs : List AV} (hr : VRelL m cs (olds ++ news)) :
    ∃ m', Step w.heap.size m h w m' (h ++ [.cells cs]) (w.drew.alloc (.cells (olds.toArray ++ (news.toArray ++ Builtin.zeroCells zv.cells (grownCap w need sCap e - need))) e)) ∧
      VRel m' (.slice h.length 0 need need n false) (.slice (some ⟨w.heap.size, 0, none⟩) need (grownCap w need sCap e)) := by
  have hzs : zv.cells.size = n := by have := VCells_length hz; simp only [VCells, Array.length_toList] at this; omega
  obtain ⟨a1, a2⟩ := row_facts (w := w) (e := e) (sCap := sCap) hzs hl
  have hge := grownCap_ge w need sCap e
  have s0 := Step.same (B := w.heap.size) hi (w' := w.drew) rfl rfl rfl rfl
  have hcl := hr.length
  have hcs : cs.length = need * n := by rw [← hcl, List.length_append, hl]
  obtain ⟨m', s1, hv⟩ := Step.newArr s0.inv _ e cs (by rw [hcs, a2]; exact hr) (by
    intro c hc
    simp only [Array.toList_append, List.mem_append] at hc
    rcases hc with hc | hc | hc
    · exact ho c (List.mem_append.2 (.inl (by simpa using hc)))
    · exact ho c (List.mem_append.2 (.inr (by simpa using hc)))
    · exact zeroCells_ones (hz.cells.ones hzo) _ c hc) need need (grownCap w need sCap e) n false hge hge (by simp) (fun _ => by rw [a1]; exact Nat.le_refl _)
  exact ⟨m', s0.trans s1, hv⟩

theorem splice_end {α : Type} (cs vs : List α) (o k : Nat) (h : o + vs.length = k) (ho : o ≤ cs.length) : (splice cs o vs).take k = cs.take o ++ vs := by
  unfold splice
  rw [List.take_append_of_le_length (by simp; omega)]
  exact List.take_of_length_le (by simp; omega)

theorem appendS_ok {P : Program} {m : M} {h h' : Heap} {w : World} (hi : Inv m h w) {t u ty e : TypeId} (ht : P.underlying t = some (.slice e)) {n by_ : Nat} {zv : Value} {zz : AV} (hz : VRel m zz zv) (hzo : zz.cells.all AV.one = true) (hzl : zz.cells.length = n)
    {x : Value} {ys : List AV} {cys : List Value} (e1 : VRelL m ys cys) (e2 : ∀ v ∈ cys, (VCells v).length = n) (e3 : ∀ c ∈ cys.flatMap VCells, c.oneCell' = true) (N : News P t u ty e n by_ zv w ys.length x (cys.flatMap VCells))
    {b o len cap n' : Nat} {ex : Bool} {z : AV} {wr : Option Nat} (he : appendS h n by_ ys b o len cap n' ex = some (z, h', wr)) {v : Value} (hx : VRel m (.slice b o len cap n' ex) v) :
    (∃ r w' m', (Builtin.append_ #[t, u] ty #[v, x]).run P w = .ok r w' ∧ Step w.heap.size m h w m' h' w' ∧ VRel m' z r) ∧ (∀ i, wr ≠ some i → i < h.length → h'[i]? = h[i]?) ∧ h.length ≤ h'.length := by
  have hcl := e1.length
  have hfl := flatMap_length cys e2
  have hx' := hx
  simp only [VRel] at hx
  obtain ⟨c, cap', hmu, rfl, hlc, hcc, hex, hrow⟩ := hx
  unfold appendS at he
  split at he
  · rename_i hemp
    simp only [Option.some.injEq, Prod.mk.injEq] at he
    obtain ⟨rfl, rfl, rfl⟩ := he
    have hy0 : ys = [] := by simpa using hemp
    subst hy0
    simp only [VRelL] at e1
    subst e1
    have := N.into (some ⟨c, o, none⟩) len cap' w (by simpa using hlc) (by intro a' _; simp [storeCells]) (by simp)
    exact ⟨⟨_, w, m, this, Step.refl hi, hx'⟩, fun _ _ _ => rfl, Nat.le_refl _⟩
  rename_i hemp
  have hpos : 0 < ys.length := by cases ys <;> simp at hemp ⊢
  split at he
  case isFalse => cases he
  rename_i hlim
  obtain ⟨rfl, hn0, hb1, hb2⟩ := hlim
  split at he
  case h_2 => cases he
  rename_i cs hb
  split at he
  case isFalse => cases he
  rename_i hle
  obtain ⟨c', cvs, t', k1, k2, k3, k4, k5, k6⟩ := hi.var b cs hb
  rw [hmu] at k1
  cases k1
  obtain ⟨kk, q1, q2⟩ := hrow hn0
  rw [k6] at q1
  cases q1
  have hcsl := k3.length
  have hcs : cs.length ≤ cvs.size := by simp at hcsl; omega
  have hbl := (List.getElem?_eq_some_iff.1 hb).1
  -- the cells ahead
  have holds : (Builtin.firstCells n' len (.slice (some ⟨c, o, none⟩) len cap')).run P w.drew = .ok (((cvs.toList.take cs.length).drop o).take (len * n')).toArray w.drew := by
    have := run_loadCells_list (P := P) w.drew ⟨c, o, none⟩ (((cvs.toList.take cs.length).drop o).take (len * n')) (fun j v hv => by
      rw [Addr.add_mid, cell?_heap (w' := w.drew) (w := w) rfl, cell_row k2]
      have h2 := take_get hv
      rw [List.getElem?_drop] at h2
      simpa using take_get h2)
    have hl2 : (((cvs.toList.take cs.length).drop o).take (len * n')).length = len * n' := by simp; omega
    rw [hl2] at this
    simpa [Builtin.firstCells] using this
  have holdl : (((cvs.toList.take cs.length).drop o).take (len * n')).length = len * n' := by simp; omega
  have holdo : ∀ v ∈ ((cvs.toList.take cs.length).drop o).take (len * n'), v.oneCell' = true := fun v hv => k5 v (List.mem_of_mem_take (List.mem_of_mem_drop (List.mem_of_mem_take hv)))
  have hneed : (((cvs.toList.take cs.length).drop o).take (len * n')).length + (cys.flatMap VCells).length = (len + ys.length) * n' := by rw [holdl, hfl, hcl, Nat.add_mul]
  have hrel : VRelL m ((cs.drop o).take (len * n') ++ ys.flatMap AV.cells) (((cvs.toList.take cs.length).drop o).take (len * n') ++ cys.flatMap VCells) := ((k3.drop o).take _).append e1.flatCells
  have hone2 : ∀ c ∈ ((cvs.toList.take cs.length).drop o).take (len * n') ++ cys.flatMap VCells, c.oneCell' = true := by
    intro v hv
    rcases List.mem_append.1 hv with hv | hv
    · exact holdo v hv
    · exact e3 v hv
  -- in place
  have inplace : len + ys.length ≤ cap' → (Builtin.append_ #[t, u] ty #[.slice (some ⟨c, o, none⟩) len cap', x]).run P w = .ok (.slice (some ⟨c, o, none⟩) (len + ys.length) cap') (w.setCells c (o + len * n') (cys.flatMap VCells)) ∧
      Step w.heap.size m h w m (h.set b (.cells (splice cs (o + len * n') (ys.flatMap AV.cells)))) (w.setCells c (o + len * n') (cys.flatMap VCells)) := by
    intro hroom
    have hmul : len * n' + ys.length * n' ≤ cap' * n' := by rw [← Nat.add_mul]; exact Nat.mul_le_mul_right _ hroom
    have hst := run_storeCells_cells (P := P) c (o + len * n') (cys.flatMap VCells) 0 w (fun j hj => by
        rw [Nat.add_zero, cell_row k2]
        have : o + len * n' + j < cvs.size := by rw [hfl, hcl] at hj; omega
        simp [this]) (fun j hj => by unfold World.frozen?; rw [Nat.add_zero, k2]; simp) e3
    simp only [Nat.add_zero] at hst
    refine ⟨N.into (some ⟨c, o, none⟩) len cap' _ hroom (by intro a' ha; cases ha; rw [Addr.add_mid]; exact hst) (by simp), ?_⟩
    have hyl := e1.flatCells.length
    exact Step.set hi hb hmu (o + len * n') _ _ e1.flatCells e3 hle (fun cvs' t2 e0 => by rw [k2] at e0; cases e0; rw [← hyl, hfl, hcl]; omega)
  split at he
  · rename_i hroom
    simp only [Option.some.injEq, Prod.mk.injEq] at he
    obtain ⟨rfl, rfl, rfl⟩ := he
    obtain ⟨r1, r2⟩ := inplace (by omega)
    refine ⟨⟨_, _, m, r1, r2, ?_⟩, fun i hne _ => by rw [List.getElem?_set_ne (fun e => hne (by rw [e]))], by simp⟩
    simp only [VRel]
    exact ⟨c, cap', hmu, rfl, by omega, hcc, hex, fun _ => ⟨_, k6, q2⟩⟩
  rename_i hroom
  split at he
  · rename_i hext
    simp only [Option.some.injEq, Prod.mk.injEq] at he
    obtain ⟨rfl, rfl, rfl⟩ := he
    have := hex hext
    have hrun := N.out (some ⟨c, o, none⟩) len cap' _ holds (by omega) hb1 hb2
    obtain ⟨m', s1, hv⟩ := Step.grown hi (e := e) (sCap := cap') hz hzo hzl hneed hone2 hrel
    exact ⟨⟨_, _, m', hrun, s1, hv⟩, fun i _ hi' => by rw [List.getElem?_append_left hi'], by simp⟩
  rename_i hext
  split at he
  case isFalse => cases he
  rename_i ho0
  subst ho0
  simp only [Option.some.injEq, Prod.mk.injEq] at he
  obtain ⟨rfl, rfl, rfl⟩ := he
  refine ⟨?_, fun i hne hi' => by rw [List.getElem?_append_left (by simpa using hi'), List.getElem?_set_ne (fun e => hne (by rw [e]))], by simp⟩
  simp only [List.drop_zero, Nat.zero_add] at *
  by_cases hin : len + ys.length ≤ cap'
  · obtain ⟨r1, r2⟩ := inplace hin
    have hb' : (h.set b (.cells (splice cs (len * n') (ys.flatMap AV.cells))))[b]? = some (.cells (splice cs (len * n') (ys.flatMap AV.cells))) := by rw [List.getElem?_set_self hbl]
    obtain ⟨d, dvs, u', j1, j2, j3, j4, j5, j6⟩ := r2.inv.var b _ hb'
    rw [hmu] at j1
    cases j1
    rw [k6] at j6
    simp only [Option.some.injEq, Prod.mk.injEq, true_and] at j6
    have hyl := e1.flatCells.length
    have htk : (splice cs (len * n') (ys.flatMap AV.cells)).take (len * n' + (ys.flatMap AV.cells).length) = cs.take (len * n') ++ ys.flatMap AV.cells := splice_end _ _ _ _ rfl hle
    have s2 := Step.move (B := w.heap.size) r2.inv hb' hmu dvs u' j2 (cs.take (len * n') ++ ys.flatMap AV.cells) (by
      have hlen : (cs.take (len * n') ++ ys.flatMap AV.cells).length = len * n' + (ys.flatMap AV.cells).length := by simp; omega
      rw [hlen, ← htk]
      have := j3.take (len * n' + (ys.flatMap AV.cells).length)
      rw [List.take_take] at this
      have hmin : min (len * n' + (ys.flatMap AV.cells).length) (splice cs (len * n') (ys.flatMap AV.cells)).length = len * n' + (ys.flatMap AV.cells).length := by
        rw [splice_length' _ _ _ hle]; omega
      rw [hmin] at this
      exact this)
    rw [List.length_set, List.set_set] at s2
    refine ⟨_, _, _, r1, r2.trans s2, ?_⟩
    simp only [VRel]
    exact ⟨c, cap', M.lay_mu' _ _ _ _, rfl, hin, by omega, by simp, fun _ => ⟨_, M.lay_rho' _ _ _ _, by omega⟩⟩
  · have hrun := N.out (some ⟨c, 0, none⟩) len cap' _ holds (by omega) hb1 hb2
    have s0 := Step.die (B := w.heap.size) hi b
    obtain ⟨m', s1, hv⟩ := Step.grown s0.inv (e := e) (sCap := cap') hz hzo hzl hneed hone2 hrel
    rw [List.length_set] at hv
    exact ⟨_, _, m', hrun, s0.trans s1, hv⟩

theorem appendA_ok {P : Program} {m : M} {h h' : Heap} {w : World} (hi : Inv m h w) {mt : Bool} {ts : Array TypeId} {ty : TypeId} {dst src z : AV} {wr : Option Nat} (he : appendA P mt ts.toList h dst src = some (z, h', wr))
    {u v : Value} (hx : VRel m dst u) (hy : VRel m src v) :
    (∃ r w' m', (Builtin.append_ ts ty #[u, v]).run P w = .ok r w' ∧ Step w.heap.size m h w m' h' w' ∧ VRel m' z r) ∧ (∀ i, wr ≠ some i → i < h.length → h'[i]? = h[i]?) ∧ h.length ≤ h'.length := by
  unfold appendA at he
  split at he
  case h_2 => cases he
  rename_i t t2 hts
  have hts' : ts = #[t, t2] := by apply Array.ext'; rw [hts]
  subst hts'
  split at he
  case h_2 => cases he
  rename_i e ud ht hu
  split at he
  case h_2 => cases he
  rename_i n by_ z0 hn hby hz0
  obtain ⟨i, zv, q1, q2, q3⟩ := tyZero_spec hz0
  obtain ⟨i', q1', hsz⟩ := tySize_spec hn
  rw [q1] at q1'
  cases q1'
  have hbytes : i.bytes = by_ := by unfold tyBytes at hby; simp [q1] at hby; exact hby
  split at he
  case h_2 => cases he
  rename_i ys hys
  split at he
  · cases he
  rename_i hzl0
  have hzl : z0.cells.length = n := Classical.not_not.1 hzl0
  have hzo := tyZero_ones hz0
  have hzs : zv.cells.size = n := by have := VCells_length (q3 m); simp only [VCells, Array.length_toList] at this; omega
  obtain ⟨cys, e1, e2, e3, N⟩ := news_run (P := P) hi (t := t) (u := t2) (ty := ty) ht hu q1 q2 (q3 m) hzo hn hbytes hsz hzl hys hy
  have hcl := e1.length
  have hfl := flatMap_length cys e2
  split at he
  · -- nil
    simp only [VRel] at hx
    subst hx
    split at he
    · rename_i hemp
      simp only [Option.some.injEq, Prod.mk.injEq] at he
      obtain ⟨rfl, rfl, rfl⟩ := he
      have hy0 : ys = [] := by simpa using hemp
      subst hy0
      have := N.into none 0 0 w (by simp) (by simp) (by simp)
      exact ⟨⟨_, w, m, this, Step.refl hi, by simp only [VRel]; simp⟩, fun _ _ _ => rfl, Nat.le_refl _⟩
    · rename_i hemp
      split at he
      case isFalse => cases he
      rename_i hb
      have hpos : 0 < ys.length := by cases ys <;> simp at hemp ⊢
      have hrun := N.out none 0 0 [] (by simp [Builtin.firstCells]) (by omega) (by rw [Nat.zero_add]; exact hb.1) (by omega)
      simp only [Nat.zero_add] at hrun
      have hge := grownCap_ge w ys.length 0 e
      split at he
      · split at he
        case isFalse => cases he
        simp only [Option.some.injEq, Prod.mk.injEq] at he
        obtain ⟨rfl, rfl, rfl⟩ := he
        obtain ⟨m', s1, hv⟩ := Step.grown hi (e := e) (sCap := 0) (need := ys.length) (q3 m) hzo hzl (olds := []) (news := cys.flatMap VCells) (by rw [hfl, hcl]; simp) (by simpa using e3) (cs := ys.flatMap AV.cells) (by simpa using e1.flatCells)
        exact ⟨⟨_, _, m', hrun, s1, hv⟩, fun i _ hi' => by rw [List.getElem?_append_left hi'], by simp⟩
      · simp only [Option.some.injEq, Prod.mk.injEq] at he
        obtain ⟨rfl, rfl, rfl⟩ := he
        refine ⟨?_, fun i _ hi' => by rw [List.getElem?_append_left hi'], by simp⟩
        obtain ⟨a1, a2⟩ := row_facts (w := w) (e := e) (sCap := 0) (need := ys.length) (olds := []) (news := cys.flatMap VCells) hzs (by rw [hfl, hcl]; simp)
        have s0 := Step.same (B := w.heap.size) hi (w' := w.drew) rfl rfl rfl rfl
        obtain ⟨m', s1, hc, hr⟩ := Step.newList s0.inv _ e (0, 0) ys.length n (grownCap w ys.length 0 e) hge a1 (fun j _ => by simp) (by rw [a2]; simpa using e3)
        exact ⟨_, _, m', hrun, s0.trans s1, rel_moved (VRelL.mono (s0.trans s1).le _ _ e1) e2 hc (by simpa using a2) hge hr⟩
  · rename_i xs nn cap tok
    split at he
    · rename_i hemp
      simp only [Option.some.injEq, Prod.mk.injEq] at he
      obtain ⟨rfl, rfl, rfl⟩ := he
      have hy0 : ys = [] := by simpa using hemp
      subst hy0
      simp only [VRelL] at e1
      subst e1
      have hx' := hx
      simp only [VRel] at hx
      rcases hx with ⟨rfl, _, _, _, rfl⟩ | ⟨a, cap', cvs, s, rfl, g2, g3, g4, g5, g6, g7, g8⟩
      · have := N.into none 0 0 w (by simp) (by simp) (by simp)
        exact ⟨⟨_, w, m, this, Step.refl hi, by simpa using hx'⟩, fun _ _ _ => rfl, Nat.le_refl _⟩
      · have := N.into (some a) xs.length cap' w (by simpa using g3) (by intro a' _; simp [storeCells]) (by simp)
        exact ⟨⟨_, w, m, this, Step.refl hi, by simpa using hx'⟩, fun _ _ _ => rfl, Nat.le_refl _⟩
    · rename_i hemp
      have hpos : 0 < ys.length := by cases ys <;> simp at hemp ⊢
      split at he
      · cases he
      rename_i hb
      have hb' : (xs.length + ys.length) * by_ ≤ 35184372088832 ∧ xs.length + ys.length ≤ 35184372088832 := Classical.not_not.1 hb
      split at he
      · cases he
      rename_i hok
      have hok' : headOk n xs = true := by cases hh : headOk n xs <;> simp_all
      -- the growing row, for whatever becomes of the right
      have grow : ∀ (a : Addr) (cap' s : Nat) (cvs : List Value), (cap' ≠ 0 → a.spot = none) → xs.length ≤ cap' → VRelL m xs cvs → (∀ cv ∈ cvs, (VCells cv).length = s) → CellsF m.F a (cvs.flatMap VCells) → cap' < xs.length + ys.length →
          (Builtin.append_ #[t, t2] ty #[.slice (some a) xs.length cap', v]).run P w = .ok (.slice (some ⟨w.heap.size, 0, none⟩) (xs.length + ys.length) (grownCap w (xs.length + ys.length) cap' e)) (w.drew.alloc (.cells ((cvs.flatMap VCells).toArray ++ ((cys.flatMap VCells).toArray ++ Builtin.zeroCells zv.cells (grownCap w (xs.length + ys.length) cap' e - (xs.length + ys.length)))) e)) ∧
            (cvs.flatMap VCells).length + (cys.flatMap VCells).length = (xs.length + ys.length) * n ∧ (∀ c ∈ cvs.flatMap VCells ++ cys.flatMap VCells, c.oneCell' = true) ∧ ∀ cv ∈ cvs ++ cys, (VCells cv).length = n := by
        intro a cap' s cvs g2 g3 g4 g5 g6 hlt
        obtain ⟨o1, o2⟩ := firstCells_list (P := P) (cap' := cap') hi g2 g3 g4 g5 g6 hok' (w' := w.drew) rfl
        have hrun := N.out (some a) xs.length cap' _ o1 hlt hb'.1 hb'.2
        refine ⟨hrun, ?_, ?_, ?_⟩
        · rw [o2, hfl, hcl, Nat.add_mul]
        · intro c hc
          simp only [List.mem_append] at hc
          rcases hc with hc | hc
          · obtain ⟨j, hj⟩ := List.mem_iff_getElem?.1 hc
            exact hi.fone _ _ (g6 j c hj)
          · exact e3 c hc
        · intro cv hcv
          rcases List.mem_append.1 hcv with hcv | hcv
          · rcases headOk_spec g4 g5 hok' with h0 | rfl
            · subst h0
              simp only [VRelL] at g4
              subst g4
              cases hcv
            · exact g5 cv hcv
          · exact e2 cv hcv
      simp only [VRel] at hx
      split at he
      · rename_i hcap
        have key : ∃ (cap' : Nat) (cvs : List Value), cap' < xs.length + ys.length ∧ VRelL m xs cvs ∧
            (Builtin.append_ #[t, t2] ty #[u, v]).run P w = .ok (.slice (some ⟨w.heap.size, 0, none⟩) (xs.length + ys.length) (grownCap w (xs.length + ys.length) cap' e)) (w.drew.alloc (.cells ((cvs.flatMap VCells).toArray ++ ((cys.flatMap VCells).toArray ++ Builtin.zeroCells zv.cells (grownCap w (xs.length + ys.length) cap' e - (xs.length + ys.length)))) e)) ∧
            (cvs.flatMap VCells).length + (cys.flatMap VCells).length = (xs.length + ys.length) * n ∧ (∀ c ∈ cvs.flatMap VCells ++ cys.flatMap VCells, c.oneCell' = true) ∧ ∀ cv ∈ cvs ++ cys, (VCells cv).length = n := by
          rcases hx with ⟨rfl, _, _, _, rfl⟩ | ⟨a, cap', cvs, s, rfl, g2, g3, g4, g5, g6, g7, g8⟩
          · have hrun := N.out none 0 0 [] (by simp [Builtin.firstCells]) (by omega) (by simpa using hb'.1) (by simpa using hb'.2)
            exact ⟨0, [], by simpa using hpos, .nil, by simpa using hrun, by simp [hfl, hcl], by simpa using e3, by simpa using e2⟩
          · have hce := g7 xs.length hcap
            obtain ⟨k1, k2, k3, k4⟩ := grow a cap' s cvs g2 g3 g4 g5 g6 (by omega)
            exact ⟨cap', cvs, by omega, g4, k1, k2, k3, k4⟩
        obtain ⟨cap', cvs, hlt, g4, hrun, a1, a3, a4⟩ := key
        have hge := grownCap_ge w (xs.length + ys.length) cap' e
        split at he
        · split at he
          case isFalse => cases he
          simp only [Option.some.injEq, Prod.mk.injEq] at he
          obtain ⟨rfl, rfl, rfl⟩ := he
          obtain ⟨m', s1, hv⟩ := Step.grown hi (e := e) (sCap := cap') (q3 m) hzo hzl a1 a3 (cs := (xs ++ ys).flatMap AV.cells) (by rw [List.flatMap_append]; exact g4.flatCells.append e1.flatCells)
          exact ⟨⟨_, _, m', hrun, s1, hv⟩, fun i _ hi' => by rw [List.getElem?_append_left hi'], by simp⟩
        · simp only [Option.some.injEq, Prod.mk.injEq] at he
          obtain ⟨rfl, rfl, rfl⟩ := he
          refine ⟨?_, fun i _ hi' => by rw [List.getElem?_append_left hi'], by simp⟩
          obtain ⟨b1, b2⟩ := row_facts (w := w) (e := e) (sCap := cap') hzs a1
          have s0 := Step.same (B := w.heap.size) hi (w' := w.drew) rfl rfl rfl rfl
          obtain ⟨m', s1, hc, hr⟩ := Step.newList s0.inv _ e (0, 0) (xs.length + ys.length) n _ hge b1 (fun j _ => by simp) (by rw [b2]; exact a3)
          have hlen : (xs ++ ys).length = xs.length + ys.length := List.length_append
          exact ⟨_, _, m', by rw [hrun, ← hlen], s0.trans s1, rel_moved ((VRelL.mono (s0.trans s1).le _ _ g4).append (VRelL.mono (s0.trans s1).le _ _ e1)) a4 (by rw [hlen]; exact hc) (by rw [hlen, b2, List.flatMap_append]) (by rw [hlen]; exact hge) (by rw [hlen]; exact hr)⟩
      · rename_i hcap
        split at he
        case h_2 => cases he
        rename_i τ
        split at he
        case h_2 => cases he
        rename_i k sz hτ
        split at he
        case isFalse => cases he
        rename_i hk
        obtain ⟨rfl, rfl⟩ := hk
        simp only [Option.some.injEq, Prod.mk.injEq] at he
        obtain ⟨rfl, rfl, rfl⟩ := he
        refine ⟨?_, fun i hne _ => by rw [List.getElem?_set_ne (fun e => hne (by rw [e]))], by simp⟩
        rcases hx with ⟨_, _, _, hc0, _⟩ | ⟨a, cap', cvs, s, rfl, g2, g3, g4, g5, g6, g7, g8⟩
        · cases hc0
        · have hrho := g8 τ rfl
          by_cases hroom : xs.length + ys.length ≤ cap'
          · -- in place
            obtain ⟨a', ca, r1, r2⟩ := hi.own τ _ _ hτ
            rw [hrho] at r1
            cases r1
            have hmul : xs.length * sz + ys.length * sz ≤ cap' * sz := by rw [← Nat.add_mul]; exact Nat.mul_le_mul_right _ hroom
            have hst := run_storeCells_cells (P := P) a.block (a.off + xs.length * sz) (cys.flatMap VCells) 0 w (fun j hj => by
                obtain ⟨⟨v, hv⟩, _, _⟩ := r2.cell (xs.length * sz + j) (by omega) (by rw [hfl, hcl] at hj; omega)
                rw [show a.off + xs.length * sz + 0 + j = a.off + (xs.length * sz + j) by omega, hv]; rfl) (fun j hj => by
                obtain ⟨_, hz, _⟩ := r2.cell (xs.length * sz + j) (by omega) (by rw [hfl, hcl] at hj; omega)
                rw [show a.off + xs.length * sz + 0 + j = a.off + (xs.length * sz + j) by omega]; exact hz) e3
            simp only [Nat.add_zero] at hst
            have hrun := N.into (some a) xs.length cap' (w.setCells a.block (a.off + xs.length * sz) (cys.flatMap VCells)) hroom
              (by intro a' ha; cases ha; rw [Addr.add_none a r2.spot]; exact hst) (by simp)
            have s1 := Step.setSpare (B := w.heap.size) hi hτ hrho (cys.flatMap VCells) (by rw [hfl, hcl]; exact hmul)
            obtain ⟨a'', ca', r3, r4⟩ := s1.inv.own τ _ _ hτ
            rw [hrho] at r3
            cases r3
            have hle2 : xs.length * sz ≤ (xs.length + ys.length) * sz := Nat.mul_le_mul_right _ (by omega)
            have s2 := Step.retok (B := w.heap.size) s1.inv τ xs.length sz (xs.length + ys.length) hτ (by omega) a cap'
              ⟨r4.spot, hroom, fun j j1 j2 => r4.cell j (by omega) j2, r4.lt, r4.var⟩ (.inr ⟨a, cap', hrho, rfl⟩)
              (fun i k tz b cb hne e0 e1' => s1.inv.apart i τ k xs.length tz sz b a cb cap' e0 hτ e1' hrho hne)
            let G : Addr → Option Value := fun x => if x.block = a.block ∧ x.spot = none ∧ a.off + xs.length * sz ≤ x.off then (cys.flatMap VCells)[x.off - (a.off + xs.length * sz)]? else none
            have hG : ∀ x u, G x = some u → x.block = a.block ∧ x.spot = none ∧ a.off + xs.length * sz ≤ x.off ∧ (cys.flatMap VCells)[x.off - (a.off + xs.length * sz)]? = some u := by
              intro x u hx
              simp only [G] at hx
              split at hx
              · rename_i hc; exact ⟨hc.1, hc.2.1, hc.2.2, hx⟩
              · cases hx
            have hτ2 : (h.set τ (.own (xs.length + ys.length) sz))[τ]? = some (.own (xs.length + ys.length) sz) := by
              rw [List.getElem?_set_self (List.getElem?_eq_some_iff.1 hτ).1]
            have s3 := Step.fro (B := w.heap.size) s2.inv G (by
                intro x u hx
                obtain ⟨c1, c2, c3, c4⟩ := hG x u hx
                obtain ⟨b, o, sp⟩ := x
                simp only at c1 c2 c3 c4
                subst c1 c2
                rw [List.getElem?_eq_some_iff] at c4
                obtain ⟨c4, c5⟩ := c4
                have := World.cell?_setCells_in a.block (cys.flatMap VCells) (a.off + xs.length * sz) w (fun j hj => by
                  obtain ⟨⟨v, hv⟩, _, _⟩ := r2.cell (xs.length * sz + j) (by omega) (by rw [hfl, hcl] at hj; omega)
                  rw [show a.off + xs.length * sz + j = a.off + (xs.length * sz + j) by omega, hv]; rfl) _ c4
                rw [show a.off + xs.length * sz + (o - (a.off + xs.length * sz)) = o by omega] at this
                rw [this, c5]) (by
                intro x u hx
                obtain ⟨c1, c2, c3, c4⟩ := hG x u hx
                exact e3 u (List.mem_of_getElem? c4)) (by
                intro x u hx k cs e0
                obtain ⟨c1, _⟩ := hG x u hx
                rw [c1]
                obtain ⟨b, cb, d1, d2⟩ := s2.inv.own τ _ _ hτ2
                simp at d1
                obtain ⟨rfl, rfl⟩ := d1
                exact d2.var k cs e0) (by
                intro i k tz b cb e0 e1' j j1 j2
                by_cases hiτ : i = τ
                · subst hiτ
                  rw [hτ2] at e0
                  cases e0
                  simp at e1'
                  obtain ⟨rfl, rfl⟩ := e1'
                  simp only [G]
                  split
                  · rename_i hc
                    rw [List.getElem?_eq_none]
                    rw [hfl, hcl]
                    rw [Nat.add_mul] at j1
                    omega
                  · rfl
                · have hne : b.block ≠ a.block := s2.inv.apart i τ k (xs.length + ys.length) tz sz b a cb cap' e0 hτ2 e1' (by simp) hiτ
                  simp only [G]
                  rw [if_neg (fun hc => hne hc.1)]) (by
                intro x u hx
                obtain ⟨c1, _⟩ := hG x u hx
                exact .inr (.inr ⟨τ, xs.length + ys.length, sz, a, cap', hτ2, by simp, c1.symm⟩))
            have st := (s1.trans s2).trans s3
            refine ⟨_, _, _, hrun, st, ?_⟩
            simp only [VRel]
            refine .inr ⟨a, cap', cvs ++ cys, sz, by rw [List.length_append], g2, by rw [List.length_append]; exact hroom, (VRelL.mono st.le _ _ g4).append (VRelL.mono st.le _ _ e1), ?_, ?_, by simp, ?_⟩
            · intro cv hcv
              rcases List.mem_append.1 hcv with hcv | hcv
              · rcases headOk_spec g4 g5 hok' with h0 | rfl
                · subst h0
                  simp only [VRelL] at g4
                  subst g4
                  cases hcv
                · exact g5 cv hcv
              · exact e2 cv hcv
            · obtain ⟨_, o2⟩ := firstCells_list (P := P) (cap' := cap') hi g2 g3 g4 g5 g6 hok' (w' := w) rfl
              intro j u hu'
              rw [List.flatMap_append] at hu'
              by_cases hj : j < (cvs.flatMap VCells).length
              · rw [List.getElem?_append_left hj] at hu'
                exact st.le.F _ _ (g6 j u hu')
              · rw [List.getElem?_append_right (by omega), o2] at hu'
                have hjj : (cys.flatMap VCells).length > j - xs.length * sz := (List.getElem?_eq_some_iff.1 hu').1
                obtain ⟨_, _, hF0⟩ := r2.cell j (by omega) (by rw [hfl, hcl] at hjj; omega)
                simp only [hF0]
                simp only [G]
                rw [if_pos (by refine ⟨trivial, trivial, ?_⟩; omega)]
                rw [show a.off + j - (a.off + xs.length * sz) = j - xs.length * sz by omega]
                exact hu'
            · intro τ' hτ'
              simp only [Option.some.injEq] at hτ'
              subst hτ'
              simp [List.length_append]
          · obtain ⟨hrun, a1, a3, a4⟩ := grow a cap' s cvs g2 g3 g4 g5 g6 (by omega)
            have hge := grownCap_ge w (xs.length + ys.length) cap' e
            obtain ⟨b1, b2⟩ := row_facts (w := w) (e := e) (sCap := cap') hzs a1
            have s0 := Step.same (B := w.heap.size) hi (w' := w.drew) rfl rfl rfl rfl
            obtain ⟨m', s1, hc, hr⟩ := Step.moveList s0.inv _ e (0, 0) (xs.length + ys.length) sz _ hge b1 (fun j _ => by simp) (by rw [b2]; exact a3) τ xs.length hτ (by omega)
            have hlen : (xs ++ ys).length = xs.length + ys.length := List.length_append
            exact ⟨_, _, m', by rw [hrun, ← hlen], s0.trans s1, rel_moved ((VRelL.mono (s0.trans s1).le _ _ g4).append (VRelL.mono (s0.trans s1).le _ _ e1)) a4 (by rw [hlen]; exact hc) (by rw [hlen, b2, List.flatMap_append]) (by rw [hlen]; exact hge) (by rw [hlen]; exact hr)⟩
  · rename_i b o len cap n' ex
    exact appendS_ok hi ht (q3 m) hzo hzl e1 e2 e3 N he hx
  · cases he

end Go.Proofs.Ytpfdfilkhaoibaa.Ev

/-
  make; a whole operation.
-/
namespace Go.Proofs.Ytpfdfilkhaoibaa.Ev
open Go
set_option linter.unusedVariables false
set_option linter.unusedSimpArgs false

theorem replicate_cells {m : M} {z : AV} {zv : Value} (h : VRel m z zv) (k : Nat) : VRelL m ((List.replicate k z).flatMap AV.cells) ((List.replicate k zv).flatMap VCells) := (VRelL.replicate h k).flatCells
theorem replicate_flat (zv : Value) (k : Nat) : (List.replicate k zv).flatMap VCells = (List.replicate k zv.cells.toList).flatten := by
  rw [List.flatMap, List.map_replicate]; rfl

theorem makeSliceA_ok {P : Program} {m : M} {h h' : Heap} {w : World} (hi : Inv m h w) {mt : Bool} {t : TypeId} {x y z : AV} (he : makeSliceA P mt t h x y = some (z, h')) {u v : Value} (hx : VRel m x u) (hy : VRel m y v) :
    ∃ r w' m', (Instr.makeSlice t u v).run P w = .ok r w' ∧ Step w.heap.size m h w m' h' w' ∧ VRel m' z r ∧ ∃ o, h' = h ++ [o] := by
  unfold makeSliceA at he
  split at he
  · rename_i e l c hu
    rw [hx.int', hy.int']
    split at he
    · rename_i n by_ z0 hn hby hz0
      obtain ⟨i, zv, q1, q2, q3⟩ := tyZero_spec hz0
      obtain ⟨i', q1', hsz⟩ := tySize_spec hn
      rw [q1] at q1'
      cases q1'
      have hbytes : i.bytes = by_ := by unfold tyBytes at hby; simp [q1] at hby; exact hby
      split at he
      · rename_i hc
        obtain ⟨c1, c2, c3, c4, c5, c6⟩ := hc
        have hrun := run_make (P := P) w t e i zv hu q1 q2 .i64 .i64 l c c1 c2 (by rw [hbytes, Int.mul_comm]; omega) (by omega)
        have hzs : zv.cells.size = n := by have := VCells_length (q3 m); simp only [VCells, Array.length_toList] at this; omega
        split at he
        · rename_i h0
          obtain ⟨h0, _⟩ := h0
          subst h0
          simp only [Option.some.injEq, Prod.mk.injEq] at he
          obtain ⟨rfl, rfl⟩ := he
          obtain ⟨m', s, hcell, hr⟩ := Step.newList hi (madeCells zv.cells (c.toNat * i.size)) e (0, 0) 0 n c.toNat (Nat.zero_le _) (by rw [size_madeCells, hsz]) (fun j _ => by simp) (by simp)
          refine ⟨_, _, m', hrun, s, ?_, _, rfl⟩
          simp only [VRel]
          exact .inr ⟨⟨w.heap.size, 0, none⟩, c.toNat, [], n, by simp, fun _ => rfl, by simp, .nil, by simp, by intro j q hq; simp at hq, by simp, by intro τ hτ; simp only [Option.some.injEq] at hτ; subst hτ; exact hr⟩
        · simp only [Option.some.injEq, Prod.mk.injEq] at he
          obtain ⟨rfl, rfl⟩ := he
          have hmade : (madeCells zv.cells (c.toNat * i.size)).toList = (List.replicate c.toNat zv).flatMap VCells := by
            rw [replicate_flat, ← zeroCells_list, hsz, ← hzs]; rfl
          have hrel := replicate_cells (q3 m) c.toNat
          have hlen := hrel.length
          obtain ⟨m', s, hv⟩ := Step.newArr hi (madeCells zv.cells (c.toNat * i.size)) e ((List.replicate c.toNat z0).flatMap AV.cells) (by rw [hmade, ← hlen, List.take_length]; exact hrel)
            (by rw [hmade, replicate_flat, ← zeroCells_list]; exact zeroCells_ones ((q3 m).cells.ones c6) _) l.toNat c.toNat c.toNat n true (by omega) (Nat.le_refl _) (fun _ => rfl) (fun _ => by rw [size_madeCells, hsz]; exact Nat.le_refl _)
          exact ⟨_, _, m', hrun, s, hv, _, rfl⟩
      · cases he
    · cases he
  · cases he

theorem copyA_ok {P : Program} {m : M} {h h' : Heap} {w : World} (hi : Inv m h w) {ts : Array TypeId} {ty : TypeId} {dst src z : AV} {wr : Option Nat} (he : copyA P ts.toList h dst src = some (z, h', wr))
    {u v : Value} (hx : VRel m dst u) (hy : VRel m src v) :
    (∃ r w' m', (Builtin.copy_ ts ty #[u, v]).run P w = .ok r w' ∧ Step w.heap.size m h w m' h' w' ∧ VRel m' z r) ∧ (∀ i, wr ≠ some i → i < h.length → h'[i]? = h[i]?) ∧ h.length ≤ h'.length := by
  unfold copyA at he
  split at he
  case h_2 => cases he
  rename_i t trest hts
  have ht0 : ts[0]? = some t := by rw [← Array.getElem?_toList, hts]; rfl
  split at he
  case h_2 => cases he
  rename_i e ht
  split at he
  case h_2 => cases he
  rename_i n hn
  split at he
  case h_2 => cases he
  rename_i ys hys
  obtain ⟨cys, e1, e2, e3, e4⟩ := elems_run (P := P) hi hys hy
  have hcl := e1.length
  obtain ⟨l1, l2⟩ := e4 w rfl
  have hs0 : ∀ w : World, (sizeOf e).run P w = .ok n w := run_sizeOf' hn
  split at he
  · simp only [Option.some.injEq, Prod.mk.injEq] at he
    obtain ⟨rfl, rfl, rfl⟩ := he
    simp only [VRel] at hx
    subst hx
    have hf := l2 0 (Nat.zero_le _)
    simp only [List.take_zero, List.flatMap_nil] at hf
    refine ⟨⟨goInt 0, w, m, ?_, Step.refl hi, by simp [goInt, VRel]⟩, fun _ _ _ => rfl, Nat.le_refl _⟩
    have hmin : Nat.min ys.length 0 = 0 := Nat.min_zero _
    simp [Builtin.copy_, ht0, run_underlying ht, l1, hmin, hs0, hf]
  · rename_i b o len cap n' ex
    split at he
    case h_2 => cases he
    rename_i cs hb
    split at he
    case isFalse => cases he
    rename_i hle
    simp only [Option.some.injEq, Prod.mk.injEq] at he
    obtain ⟨rfl, rfl, rfl⟩ := he
    simp only [VRel] at hx
    obtain ⟨c, cap', hmu, rfl, _⟩ := hx
    obtain ⟨c', cvs, t', k1, k2, k3, k4, k5, k6⟩ := hi.var b cs hb
    rw [hmu] at k1
    cases k1
    have hcsl := k3.length
    have hcs : cs.length ≤ cvs.size := by simp at hcsl; omega
    have hf := l2 (min ys.length len) (Nat.min_le_left _ _)
    have hrel := (e1.take (min ys.length len)).flatCells
    have hones : ∀ c ∈ (cys.take (min ys.length len)).flatMap VCells, c.oneCell' = true := fun c hc => by
      obtain ⟨v, hv, hc⟩ := List.mem_flatMap.1 hc
      exact e3 c (List.mem_flatMap.2 ⟨v, List.mem_of_mem_take hv, hc⟩)
    have hlen : ((cys.take (min ys.length len)).flatMap VCells).length = min ys.length len * n := by
      rw [flatMap_length _ (fun v hv => e2 v (List.mem_of_mem_take hv)), List.length_take]
      congr 1; omega
    have hst := run_storeCells_cells (P := P) c o ((cys.take (min ys.length len)).flatMap VCells) 0 w (fun j hj => by
        rw [Nat.add_zero, cell_row k2]
        have : o + j < cvs.size := by omega
        simp [this]) (fun j hj => by unfold World.frozen?; rw [Nat.add_zero, k2]; simp) hones
    simp only [Nat.add_zero] at hst
    have hyl := hrel.length
    have s := Step.set (B := w.heap.size) hi hb hmu o _ _ hrel hones (by omega) (fun cvs' t2 e0 => by rw [k2] at e0; cases e0; omega)
    refine ⟨⟨goInt ((min ys.length len : Nat) : Int), _, m, ?_, s, by simp only [goInt, VRel]⟩, fun i hne _ => by rw [List.getElem?_set_ne (fun e => hne (by rw [e]))], by simp⟩
    have key : ∀ (K : Nat) (L : List Value) (w' : World), Nat.min ys.length len = K → (Builtin.firstCells n K v).run P w = .ok L.toArray w → (storeCells ⟨c, o, none⟩ L).run P w = .ok () w' →
        (Builtin.copy_ ts ty #[.slice (some ⟨c, o, none⟩) len cap', v]).run P w = .ok (goInt K) w' := by
      intro K L w' hmin hf hst
      simp [Builtin.copy_, ht0, run_underlying ht, l1, hmin, hs0, hf, hst]
    exact key _ _ _ rfl hf hst
  · cases he

theorem clearA_ok {P : Program} {m : M} {h h' : Heap} {w : World} (hi : Inv m h w) {ts : Array TypeId} {ty : TypeId} {dst z : AV} {wr : Option Nat} (he : clearA P ts.toList h dst = some (z, h', wr))
    {u : Value} (hx : VRel m dst u) :
    (∃ r w' m', (Builtin.clear_ ts ty #[u]).run P w = .ok r w' ∧ Step w.heap.size m h w m' h' w' ∧ VRel m' z r) ∧ (∀ i, wr ≠ some i → i < h.length → h'[i]? = h[i]?) ∧ h.length ≤ h'.length := by
  unfold clearA at he
  split at he
  case h_2 => cases he
  rename_i t trest hts
  have ht0 : ts[0]? = some t := by rw [← Array.getElem?_toList, hts]; rfl
  split at he
  case h_2 => cases he
  rename_i e ht
  split at he
  · simp only [Option.some.injEq, Prod.mk.injEq] at he
    obtain ⟨rfl, rfl, rfl⟩ := he
    simp only [VRel] at hx
    subst hx
    exact ⟨⟨undef, w, m, by simp [Builtin.clear_, ht0, run_underlying ht, undef], Step.refl hi, VRel.undef⟩, fun _ _ _ => rfl, Nat.le_refl _⟩
  · simp only [Option.some.injEq, Prod.mk.injEq] at he
    obtain ⟨rfl, rfl, rfl⟩ := he
    simp only [VRel] at hx
    refine ⟨⟨undef, w, m, ?_, Step.refl hi, VRel.undef⟩, fun _ _ _ => rfl, Nat.le_refl _⟩
    rcases hx with ⟨_, _, _, _, rfl⟩ | ⟨a, cap', cvs, s, rfl, _⟩ <;> simp [Builtin.clear_, ht0, run_underlying ht, undef]
  · rename_i b o len cap n' ex
    simp only [VRel] at hx
    obtain ⟨c, cap', hmu, rfl, _⟩ := hx
    split at he
    · rename_i h0
      subst h0
      simp only [Option.some.injEq, Prod.mk.injEq] at he
      obtain ⟨rfl, rfl, rfl⟩ := he
      exact ⟨⟨undef, w, m, by simp [Builtin.clear_, ht0, run_underlying ht, undef], Step.refl hi, VRel.undef⟩, fun _ _ _ => rfl, Nat.le_refl _⟩
    rename_i h0
    split at he
    case h_2 => cases he
    rename_i n z0 cs hn hz0 hb
    obtain ⟨i, zv, q1, q2, q3⟩ := tyZero_spec hz0
    split at he
    case isFalse => cases he
    rename_i hc
    obtain ⟨hzl, hle⟩ := hc
    simp only [Option.some.injEq, Prod.mk.injEq] at he
    obtain ⟨rfl, rfl, rfl⟩ := he
    obtain ⟨c', cvs, t', k1, k2, k3, k4, k5, k6⟩ := hi.var b cs hb
    rw [hmu] at k1
    cases k1
    have hcsl := k3.length
    have hcs : cs.length ≤ cvs.size := by simp at hcsl; omega
    have hzs : zv.cells.size = n := by have := VCells_length (q3 m); simp only [VCells, Array.length_toList] at this; omega
    have hrel := replicate_cells (q3 m) len
    have hones : ∀ c ∈ (List.replicate len zv).flatMap VCells, c.oneCell' = true := by
      rw [replicate_flat, ← zeroCells_list]; exact zeroCells_ones ((q3 m).cells.ones (tyZero_ones hz0)) _
    have hlen : ((List.replicate len zv).flatMap VCells).length = len * n := by
      rw [flatMap_length (s := n) _ (fun v hv => by rw [List.eq_of_mem_replicate hv]; exact hzs), List.length_replicate]
    have hst := run_storeCells_cells (P := P) c o ((List.replicate len zv).flatMap VCells) 0 w (fun j hj => by
        rw [Nat.add_zero, cell_row k2]
        have : o + j < cvs.size := by omega
        simp [this]) (fun j hj => by unfold World.frozen?; rw [Nat.add_zero, k2]; simp) hones
    simp only [Nat.add_zero] at hst
    have hyl := hrel.length
    have s := Step.set (B := w.heap.size) hi hb hmu o _ _ hrel hones (by omega) (fun cvs' t2 e0 => by rw [k2] at e0; cases e0; omega)
    refine ⟨⟨undef, _, m, ?_, s, VRel.undef⟩, fun i hne _ => by rw [List.getElem?_set_ne (fun e => hne (by rw [e]))], by simp⟩
    rw [replicate_flat, ← zeroCells_list] at hst
    obtain ⟨k, rfl⟩ : ∃ k, len = k + 1 := ⟨len - 1, by omega⟩
    rw [replicate_flat, ← zeroCells_list]
    simp [Builtin.clear_, ht0, run_underlying ht, run_zeroValue' q1 q2, hst, undef]
  · cases he

theorem capA_ok {P : Program} {m : M} {w : World} {t ty : TypeId} {ts : Array TypeId} (ht : ts[0]? = some t) {x z : AV} (he : capA P t x = some z) {us : Array Value} {u : Value} (hu0 : us[0]? = some u) (hx : VRel m x u) :
    ∃ r, (Builtin.cap_ ts ty us).run P w = .ok r w ∧ VRel m z r := by
  unfold capA at he
  split at he
  · rename_i e hu
    simp only [Option.some.injEq] at he; subst he
    simp only [VRel] at hx
    subst hx
    exact ⟨goInt 0, by simp [Builtin.cap_, ht, hu0, run_underlying hu], by simp [goInt, VRel]⟩
  · rename_i e xs nn c tok hu
    simp only [Option.some.injEq] at he; subst he
    simp only [VRel] at hx
    rcases hx with ⟨_, _, h3, _, rfl⟩ | ⟨a, cap', cvs, s, rfl, _, _, _, _, _, h7, _⟩
    · have := h3 c rfl
      subst this
      exact ⟨goInt 0, by simp [Builtin.cap_, ht, hu0, run_underlying hu], by simp [goInt, VRel]⟩
    · have := h7 c rfl
      subst this
      exact ⟨goInt c, by simp [Builtin.cap_, ht, hu0, run_underlying hu], by simp only [goInt, VRel]⟩
  · rename_i e b o n c nn hu
    simp only [Option.some.injEq] at he; subst he
    simp only [VRel] at hx
    obtain ⟨c', cap', _, rfl, _, _, h5, _⟩ := hx
    have := h5 trivial
    subst this
    exact ⟨goInt c, by simp [Builtin.cap_, ht, hu0, run_underlying hu], by simp only [goInt, VRel]⟩
  · cases he

/-- What a call must give: a value and a later state. -/
def CallSpec (P : Program) (call : CallFn) : Prop :=
  ∀ g vs h v h' d, call g vs h = some (v, h', d) → ∀ m w (us : Array Value), Inv m h w → VRelL m vs us.toList →
    Calls P g us w (fun e w' => ∃ u, e = .returned u ∧ ∃ m', Step w.heap.size m h w m' h' w' ∧ VRel m' v u) ∧ h.length ≤ h'.length ∧ (d = false → ∀ i, i < h.length → h'[i]? = h[i]?)

/-- What an operation comes to. -/
def Res (P : Program) (r : Result Next) (K : Value → World → Prop) : Prop :=
  match r with
  | .ok (.value v) w' => K v w'
  | .ok .skip w' => K undef w'
  | .ok (.enter f args) w' => Calls P f args w' fun e w'' => ∃ v, e = .returned v ∧ K v w''
  | _ => False

theorem Res.mono {P : Program} {r : Result Next} {K K' : Value → World → Prop} (h : Res P r K) (hk : ∀ v w, K v w → K' v w) : Res P r K' := by
  unfold Res at h ⊢
  split
  · exact hk _ _ h
  · exact hk _ _ h
  · exact h.mono fun e w'' ⟨v, he, hv⟩ => ⟨v, he, hk _ _ hv⟩
  · rename_i h1 h2 h3
    split at h
    · exact (h1 _ _ rfl).elim
    · exact (h2 _ rfl).elim
    · exact (h3 _ _ _ rfl).elim
    · exact h

theorem Res.wp {P : Program} {o : Oper} {a : Act} {w : World} {K : Value → World → Prop} {next : Act → World → Prop} {Q : Exit → Act → World → Prop} (h : Res P ((execOp a.eval o).run P w) K)
    (hk : ∀ v w', K v w' → next (a.put o.dst v) w') : o.wp P a w next Q := by
  unfold Oper.wp
  unfold Res at h
  split at h
  · rename_i heq; rw [heq]; exact hk _ _ h
  · rename_i heq; rw [heq]; exact hk _ _ h
  · rename_i heq
    rw [heq]
    simp only [Oper.upon]
    refine h.mono ?_
    rintro e w'' ⟨v, rfl, hv⟩
    exact hk _ _ hv
  · exact h.elim

/-- Contracts of functions that are taken by what they say. -/
def PrimSpec (C : Cfg) : Prop :=
  ∀ g p, C.prim g = some p → ∀ vs v, cleanL 0 vs = true → p vs = some v → v.clean 0 = true → ∀ (m : M) (w : World) (us : Array Value), Inv m [] w → VRelL m vs us.toList →
    Res C.P ((callFunc g us).run C.P w) (fun u w' => ∃ m', Step w.heap.size m [] w m' [] w' ∧ VRel m' v u)

/-- Contracts that look at, or change, the heap. -/
def HPrimSpec (C : Cfg) : Prop :=
  ∀ g p, C.hprim g = some p → ∀ vs h v h' d, p vs h = some (v, h', d) → ∀ (m : M) (w : World) (us : Array Value), Inv m h w → VRelL m vs us.toList →
    Res C.P ((callFunc g us).run C.P w) (fun u w' => ∃ m', Step w.heap.size m h w m' h' w' ∧ VRel m' v u) ∧ h.length ≤ h'.length ∧ (d = false → ∀ i, i < h.length → h'[i]? = h[i]?)

structure CfgOk (C : Cfg) : Prop where
  prim : PrimSpec C
  hprim : HPrimSpec C
  body : ∀ f, C.mode f ≠ .no → ∃ fn c, C.P.funcs[f]? = some fn ∧ fn.body = some c ∧ fn.name ≠ "runtime.NumGoroutine"

theorem callFunc_enter {C : Cfg} (hC : CfgOk C) {g : FuncId} (hg : C.mode g ≠ .no) (us : Array Value) (w : World) : (callFunc g us).run C.P w = .ok (.enter g us) w := by
  obtain ⟨fn, c, h1, h2, h3⟩ := hC.body g hg
  simp [callFunc, h1, h2, h3]

/-- What is known without the small heap. -/
def M.bare (m : M) : M := ⟨m.F, fun _ => none, fun _ _ => none⟩

theorem bare_upto (m : M) : m.upto 0 = m.bare := by simp [M.upto, M.bare]

theorem Inv.bare {m : M} {h : Heap} {w : World} (hi : Inv m h w) : Inv m.bare [] w :=
  ⟨hi.f, hi.fone, fun i cs e => by simp at e, fun i j cs ds c e => by simp at e, fun i n sz e => by simp at e, fun i j n k sz tz a b ca cb e => by simp at e, fun i c e => by simp [M.bare] at e, fun i n r e => by simp [M.bare] at e,
    fun i n k sz r e => by simp at e⟩

theorem touch_bare {m : M} {c : Nat} : ¬ Touch m [] c := by
  rintro (⟨i, cs, e, _⟩ | ⟨i, n, sz, a, cap, e, _⟩) <;> simp at e

/-- A call that sees nothing of the small heap leaves it as it was. -/
theorem Step.pure {m : M} {h : Heap} {w : World} (hi : Inv m h w) {m1 : M} {h1 : Heap} {w1 : World} (s : Step w.heap.size m.bare [] w m1 h1 w1) :
    Step w.heap.size m h w ⟨m1.F, m.mu, m.rho⟩ h w1 := by
  have hF : ∀ a v, m1.F a = some v → m.F a = some v ∨ w.heap.size ≤ a.block := by
    intro a v e
    rcases s.fnew a v e with e | e | e
    · exact .inl e
    · exact (touch_bare e).elim
    · exact .inr e
  have hle : m.le ⟨m1.F, m.mu, m.rho⟩ := ⟨fun a v e => s.le.F a v e, fun _ _ e => e, fun _ _ _ e => e⟩
  have hold : ∀ c, c < w.heap.size → w1.heap[c]? = w.heap[c]? := fun c hc => s.frame c hc touch_bare
  refine ⟨hle, ⟨s.inv.f, s.inv.fone, ?_, hi.inj, ?_, hi.apart, hi.mu, hi.rho, hi.cur⟩, s.size, s.os, s.tape, s.output, fun c hc _ => hold c hc, fun _ e => .inl e, fun a v e => (hF a v e).imp id .inr⟩
  · intro i cs e
    obtain ⟨c, cvs, t, h1, h2, h3, h4, h5⟩ := hi.var i cs e
    have hc := (Array.getElem?_eq_some_iff.1 h2).1
    refine ⟨c, cvs, t, h1, by rw [hold c hc]; exact h2, VRelL.mono hle _ _ h3, fun a ha => ?_, h5⟩
    cases hf : m1.F a with
    | none => rfl
    | some v =>
      rcases hF a v hf with e | e
      · rw [h4 a ha] at e; cases e
      · omega
  · intro i n sz e
    obtain ⟨a, cap, h1, h2⟩ := hi.own i n sz e
    refine ⟨a, cap, h1, h2.spot, h2.le, fun j j1 j2 => ?_, Nat.lt_of_lt_of_le h2.lt s.size, h2.var⟩
    obtain ⟨⟨v, f1⟩, f2, f3⟩ := h2.cell j j1 j2
    have hb := hold a.block h2.lt
    refine ⟨⟨v, by rw [World.cell?_of_block (a := ⟨a.block, a.off + j, none⟩) hb]; exact f1⟩, by rw [World.frozen?_of_block (a := ⟨a.block, a.off + j, none⟩) hb]; exact f2, ?_⟩
    cases hf : m1.F ⟨a.block, a.off + j, none⟩ with
    | none => rfl
    | some v =>
      rcases hF _ v hf with e | e
      · rw [f3] at e; cases e
      · have := h2.lt; simp at e; omega

/-- All that is new by now never changes any more. -/
def snapF (m : M) (w : World) (B : Nat) : Addr → Option Value := fun a => match m.F a with
  | some v => some v
  | none => if B ≤ a.block then (match w.cell? a with | some v => if v.oneCell' then some v else none | none => none) else none
theorem snapF_old {m : M} {w : World} {B : Nat} {a : Addr} {v : Value} (h : m.F a = some v) : snapF m w B a = some v := by simp only [snapF, h]
theorem snapF_new {m : M} {w : World} {B : Nat} {a : Addr} {v : Value} (h : m.F a = none) (hb : B ≤ a.block) (hc : w.cell? a = some v) (h1 : v.oneCell' = true) : snapF m w B a = some v := by simp only [snapF, h, if_pos hb, hc, h1, if_true]
theorem snapF_inv {m : M} {w : World} {B : Nat} {a : Addr} {v : Value} (h : snapF m w B a = some v) : m.F a = some v ∨ (B ≤ a.block ∧ w.cell? a = some v ∧ v.oneCell' = true) := by
  simp only [snapF] at h
  split at h
  · rename_i u hu; cases h; exact .inl hu
  · split at h
    · rename_i hb
      split at h
      · rename_i u hu
        split at h
        · rename_i h1; cases h; exact .inr ⟨hb, hu, h1⟩
        · cases h
      · cases h
    · cases h

/-- A call that sees nothing of the small heap leaves it as it was; what it made stays as it is. -/
theorem Step.pureF {m : M} {h : Heap} {w : World} (hi : Inv m h w) {m1 : M} {h1 : Heap} {w1 : World} (s : Step w.heap.size m.bare [] w m1 h1 w1) :
    Step w.heap.size m h w ⟨snapF m1 w1 w.heap.size, m.mu, m.rho⟩ h w1 := by
  have hF : ∀ a v, snapF m1 w1 w.heap.size a = some v → m.F a = some v ∨ w.heap.size ≤ a.block := by
    intro a v e
    rcases snapF_inv e with e | ⟨e, _⟩
    · rcases s.fnew a v e with e | e | e
      · exact .inl e
      · exact (touch_bare e).elim
      · exact .inr e
    · exact .inr e
  have hle : m.le ⟨snapF m1 w1 w.heap.size, m.mu, m.rho⟩ := ⟨fun a v e => snapF_old (s.le.F a v e), fun _ _ e => e, fun _ _ _ e => e⟩
  have hold : ∀ c, c < w.heap.size → w1.heap[c]? = w.heap[c]? := fun c hc => s.frame c hc touch_bare
  refine ⟨hle, ⟨?_, ?_, ?_, hi.inj, ?_, hi.apart, hi.mu, hi.rho, hi.cur⟩, s.size, s.os, s.tape, s.output, fun c hc _ => hold c hc, fun _ e => .inl e, fun a v e => (hF a v e).imp id .inr⟩
  · intro a v e
    rcases snapF_inv e with e | ⟨_, e, _⟩
    · exact s.inv.f a v e
    · exact e
  · intro a v e
    rcases snapF_inv e with e | ⟨_, _, e⟩
    · exact s.inv.fone a v e
    · exact e
  · intro i cs e
    obtain ⟨c, cvs, t, h1, h2, h3, h4, h5, h6⟩ := hi.var i cs e
    have hc := (Array.getElem?_eq_some_iff.1 h2).1
    refine ⟨c, cvs, t, h1, by rw [hold c hc]; exact h2, VRelL.mono hle _ _ h3, fun a ha => ?_, h5, h6⟩
    cases hf : snapF m1 w1 w.heap.size a with
    | none => exact hf
    | some v =>
      rcases hF a v hf with e | e
      · rw [h4 a ha] at e; cases e
      · omega
  · intro i n sz e
    obtain ⟨a, cap, h1, h2⟩ := hi.own i n sz e
    refine ⟨a, cap, h1, h2.spot, h2.le, fun j j1 j2 => ?_, Nat.lt_of_lt_of_le h2.lt s.size, h2.var⟩
    obtain ⟨⟨v, f1⟩, f2, f3⟩ := h2.cell j j1 j2
    have hb := hold a.block h2.lt
    refine ⟨⟨v, by rw [World.cell?_of_block (a := ⟨a.block, a.off + j, none⟩) hb]; exact f1⟩, by rw [World.frozen?_of_block (a := ⟨a.block, a.off + j, none⟩) hb]; exact f2, ?_⟩
    cases hf : snapF m1 w1 w.heap.size ⟨a.block, a.off + j, none⟩ with
    | none => exact hf
    | some v =>
      rcases hF _ v hf with e | e
      · rw [f3] at e; cases e
      · have := h2.lt; simp at e; omega

mutual
theorem VRel.fz {m m' : M} (hle : m.le m') {g : Nat → Nat → Nat → Nat → Option (List AV)} (hg : ∀ b o len cap n ex v xs, g b o len n = some xs → VRel m (.slice b o len cap n ex) v → VRel m' (.list xs false none none) v) : ∀ (x : AV) (v : Value), VRel m x v → VRel m' (x.fz g) v
  | .bool _, _, e => by simpa only [AV.fz, VRel] using e
  | .int _ _, _, e => by simpa only [AV.fz, VRel] using e
  | .str _, _, e => by simpa only [AV.fz, VRel] using e
  | .nilp, _, e => by simpa only [AV.fz, VRel] using e
  | .raw _, _, e => by simpa only [AV.fz, VRel] using e
  | .ptr b o, v, e => by simp only [AV.fz]; exact VRel.mono hle _ _ e
  | .func fn a b, v, e => by simp only [AV.fz]; exact VRel.mono hle _ _ e
  | .rptr x, _, e => by
    simp only [AV.fz, VRel] at e ⊢
    obtain ⟨a, cv, h1, h2, h3, h4⟩ := e
    exact ⟨a, cv, h1, h2, VRel.fz hle hg x cv h3, h4.mono hle.F⟩
  | .nils, _, e => by simpa only [AV.fz, VRel] using e
  | .list xs _ _ _, _, e => by
    simp only [AV.fz, VRel] at e ⊢
    rcases e with ⟨h0, h1, h2, h3, h4⟩ | ⟨a, cap', cvs, s, h1, h2, h3, h4, h5, h6, h7, h8⟩
    · subst h0; exact .inl ⟨by simp only [fzL], h1, h2, h3, h4⟩
    · have hl : (fzL g xs).length = xs.length := fzL_length g xs
      exact .inr ⟨a, cap', cvs, s, by rw [hl]; exact h1, h2, by rw [hl]; exact h3, VRelL.fz hle hg xs cvs h4, h5, h6.mono hle.F, h7, fun τ e => by rw [hl]; exact hle.rho _ _ _ (h8 τ e)⟩
  | .slice b o len cap n ex, v, e => by
    simp only [AV.fz]
    split
    · rename_i xs hx
      exact hg b o len cap n ex v xs hx e
    · exact VRel.mono hle _ _ e
  | .nilFunc, _, e => by simpa only [AV.fz, VRel] using e
  | .iface _ x, _, e => by simp only [AV.fz, VRel] at e ⊢; obtain ⟨cv, h1, h2⟩ := e; exact ⟨cv, h1, VRel.fz hle hg x cv h2⟩
  | .nilIface, _, e => by simpa only [AV.fz, VRel] using e
  | .agg cs, _, e => by simp only [AV.fz, VRel] at e ⊢; obtain ⟨cvs, h1, h2⟩ := e; exact ⟨cvs, h1, VRelL.fz hle hg cs _ h2⟩
  | .tuple cs, _, e => by simp only [AV.fz, VRel] at e ⊢; obtain ⟨cvs, h1, h2⟩ := e; exact ⟨cvs, h1, VRelL.fz hle hg cs _ h2⟩
theorem VRelL.fz {m m' : M} (hle : m.le m') {g : Nat → Nat → Nat → Nat → Option (List AV)} (hg : ∀ b o len cap n ex v xs, g b o len n = some xs → VRel m (.slice b o len cap n ex) v → VRel m' (.list xs false none none) v) : ∀ (x : List AV) (v : List Value), VRelL m x v → VRelL m' (fzL g x) v
  | [], _, e => by simpa only [fzL, VRelL] using e
  | x :: xs, _, e => by
    simp only [fzL, VRelL] at e ⊢
    obtain ⟨v, vs, h1, h2, h3⟩ := e
    exact ⟨v, vs, h1, VRel.fz hle hg x v h2, VRelL.fz hle hg xs vs h3⟩
theorem fzL_length (g : Nat → Nat → Nat → Nat → Option (List AV)) : ∀ xs : List AV, (fzL g xs).length = xs.length
  | [] => by simp only [fzL]
  | _ :: xs => by simp only [fzL, List.length_cons, fzL_length g xs]
end

theorem VRelL.mapR {m m' : M} {f : AV → AV} (hf : ∀ x v, VRel m x v → VRel m' (f x) v) : ∀ {xs : List AV} {vs : List Value}, VRelL m xs vs → VRelL m' (xs.map f) vs
  | [], _, h => by simpa only [List.map_nil, VRelL] using h
  | x :: xs, _, h => by
    simp only [VRelL] at h
    obtain ⟨v, vs, rfl, h1, h2⟩ := h
    exact .cons (hf x v h1) (VRelL.mapR hf h2)

/-- A value whose arrays are read as lists. -/
theorem VRel.frz {m : M} {h : Heap} {w : World} (hi : Inv m h w) {B : Nat} (hB : ∀ c, Touch m h c → B ≤ c) : ∀ (k : Nat) (x : AV) (v : Value), VRel m x v → VRel ⟨snapF m w B, m.mu, m.rho⟩ (frz h k x) v := by
  have hle : m.le ⟨snapF m w B, m.mu, m.rho⟩ := ⟨fun a v e => snapF_old e, fun _ _ e => e, fun _ _ _ e => e⟩
  intro k
  induction k with
  | zero => intro x v e; exact VRel.mono hle _ _ e
  | succ k ih =>
    intro x v e
    refine VRel.fz hle ?_ x v e
    intro b o len cap n ex v xs hx hv
    split at hx
    · rename_i cs hb
      split at hx
      · rename_i hc
        simp only [Option.some.injEq] at hx
        subst hx
        simp only [VRel] at hv
        obtain ⟨c, cap', hmu, rfl, hlc, _⟩ := hv
        obtain ⟨c', cvs, t', k1, k2, k3, k4, k5, k6⟩ := hi.var b cs hb
        rw [hmu] at k1
        cases k1
        have hcsl := k3.length
        obtain ⟨r1, r2, r3⟩ := chunk_rel (n := n) len (k3.drop o) (fun v hv => k5 v (List.mem_of_mem_take (List.mem_of_mem_drop hv))) (by simp; omega)
        simp only [VRel]
        have hlen : ((chunkA n len (cs.drop o)).map (Ev.frz h k)).length = len := by rw [List.length_map, chunkA_length]
        refine .inr ⟨⟨c, o, none⟩, cap', _, n, by rw [hlen], fun _ => rfl, by rw [hlen]; exact hlc, VRelL.mapR ih r1, r2, ?_, by simp, by simp⟩
        rw [r3]
        intro i u hu
        have h1 := take_get hu
        rw [List.getElem?_drop] at h1
        have h2 := take_get h1
        have hbl : B ≤ c := hB c (.inl ⟨b, cs, hb, hmu⟩)
        exact snapF_new (k4 _ rfl) hbl (by rw [cell_row k2]; simpa using h2) (k5 u (List.mem_of_getElem? h2))
      · cases hx
    · cases hx

/-- A value without traces of the small heap. -/
theorem VRel.bare {m : M} {x : AV} {v : Value} (hc : x.strip.clean 0 = true) (h : VRel m x v) : VRel m.bare x.strip v := by
  rw [← bare_upto]
  exact VRel.upto _ _ hc (VRel.strip _ _ h)
theorem VRelL.bare {m : M} {x : List AV} {v : List Value} (hc : cleanL 0 (stripL x) = true) (h : VRelL m x v) : VRelL m.bare (stripL x) v := by
  rw [← bare_upto]
  exact VRelL.upto _ _ hc (VRelL.strip _ _ h)
theorem M.bare_le (F : Addr → Option Value) (m : M) : (⟨F, fun _ => none, fun _ _ => none⟩ : M).le ⟨F, m.mu, m.rho⟩ := ⟨fun _ _ e => e, fun _ _ e => (by cases e), fun _ _ _ e => (by cases e)⟩

theorem callF_ok {C : Cfg} (hC : CfgOk C) {call : CallFn} (hcall : CallSpec C.P call) {g : FuncId} {vs : List AV} {h h' : Heap} {d d' : Bool} {v : AV} (he : callF C call g vs h d = some (v, h', d'))
    {m : M} {w : World} (hi : Inv m h w) {us : Array Value} (hr : VRelL m vs us.toList) :
    Res C.P ((callFunc g us).run C.P w) (fun u w' => ∃ m', Step w.heap.size m h w m' h' w' ∧ VRel m' v u) ∧ h.length ≤ h'.length ∧ (d' = false → d = false ∧ ∀ i, i < h.length → h'[i]? = h[i]?) := by
  unfold callF at he
  split at he
  · rename_i p hp
    split at he
    · rename_i q h1 d1 hq
      simp only [Option.some.injEq, Prod.mk.injEq] at he
      obtain ⟨rfl, rfl, rfl⟩ := he
      obtain ⟨k1, k2, k3⟩ := hC.hprim g p hp _ _ _ _ _ hq m w us hi hr
      refine ⟨k1, k2, fun e => ?_⟩
      simp only [Bool.or_eq_false_iff] at e
      exact ⟨e.1, k3 e.2⟩
    · cases he
  split at he
  · rename_i p hp
    split at he
    · rename_i hcl
      cases hq : p (stripL vs) with
      | none => simp [hq] at he
      | some q =>
        simp only [hq, Option.bind_some] at he
        split at he
        · rename_i hqc
          simp only [Option.some.injEq, Prod.mk.injEq] at he
          obtain ⟨rfl, rfl, rfl⟩ := he
          refine ⟨?_, Nat.le_refl _, fun e => ⟨e, fun _ _ => rfl⟩⟩
          have := hC.prim g p hp _ q hcl hq hqc m.bare w us hi.bare (VRelL.bare hcl hr)
          refine this.mono ?_
          rintro u w' ⟨m1, s, hv⟩
          refine ⟨_, Step.pure hi s, ?_⟩
          have h1 : VRel (m1.upto 0) q u := VRel.upto _ _ hqc hv
          rw [bare_upto] at h1
          exact VRel.mono (M.bare_le m1.F m) _ _ h1
        · cases he
    · cases he
  · split at he
    · rename_i hmode
      split at he
      · rename_i hcl
        split at he
        · rename_i q h1 d1 hq
          split at he
          · rename_i hqc
            simp only [Option.some.injEq, Prod.mk.injEq] at he
            obtain ⟨rfl, rfl, rfl⟩ := he
            refine ⟨?_, Nat.le_refl _, fun e => ⟨e, fun _ _ => rfl⟩⟩
            rw [callFunc_enter hC (by rw [hmode]; simp)]
            simp only [Res]
            obtain ⟨k1, _, _⟩ := hcall g _ _ _ _ _ hq m.bare w us hi.bare (VRelL.bare hcl hr)
            refine k1.mono ?_
            rintro e w'' ⟨u, rfl, m1, s, hv⟩
            refine ⟨u, rfl, _, Step.pureF hi s, ?_⟩
            exact VRel.mono (M.bare_le _ m) _ _ (VRel.bare (m := ⟨snapF m1 w'' w.heap.size, m1.mu, m1.rho⟩) hqc (VRel.frz s.inv (fun c hc => (s.touch c hc).elim (fun e => (touch_bare e).elim) id) 3 _ _ hv))
          · cases he
        · cases he
      · cases he
    · rename_i hmode
      split at he
      · rename_i q h1 d1 hq
        simp only [Option.some.injEq, Prod.mk.injEq] at he
        obtain ⟨rfl, rfl, rfl⟩ := he
        obtain ⟨k1, k2, k3⟩ := hcall g _ _ _ _ _ hq m w us hi hr
        refine ⟨?_, k2, fun e => ?_⟩
        · rw [callFunc_enter hC (by rw [hmode]; simp)]
          simp only [Res]
          exact k1
        · simp only [Bool.or_eq_false_iff] at e
          exact ⟨e.1, k3 e.2⟩
      · cases he
    · cases he

end Go.Proofs.Ytpfdfilkhaoibaa.Ev
