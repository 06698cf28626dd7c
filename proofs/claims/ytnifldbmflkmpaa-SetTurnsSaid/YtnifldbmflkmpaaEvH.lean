/-
  What each operation does: literals, variables, stores, conversions, lengths, append, make.
-/
import Derived.Test.YtnifldbmflkmpaaEvG
namespace Go.Proofs.Ytnifldbmflkmpaa.Ev
open Go
set_option linter.unusedVariables false
set_option linter.unusedSimpArgs false

theorem ofCell_rel {m : M} : ∀ (v : Value) (x : AV), ofCell v = some x → VRel m x v
  | v, x, h => by
    unfold ofCell at h
    split at h
    all_goals first
      | (cases h; done)
      | (simp only [Option.some.injEq] at h; subst h; simp only [VRel]; done)
      | (simp only [Option.some.injEq] at h; subst h; simp only [VRel]; exact ⟨_, rfl, rfl⟩)

theorem mapM_cells {m : M} : ∀ (l : List Value) (xs : List AV), l.mapM ofCell = some xs → VRelL m xs l
  | [], xs, h => by simp at h; subst h; exact .nil
  | v :: l, xs, h => by
    rw [List.mapM_cons] at h
    cases hv : ofCell v with
    | none => simp [hv] at h
    | some y =>
      cases hl : l.mapM ofCell with
      | none => simp [hv, hl] at h
      | some ys =>
        simp [hv, hl] at h
        subst h
        exact .cons (ofCell_rel v y hv) (mapM_cells l ys hl)

theorem ofConst_rel {m : M} {v : Value} {x : AV} (h : ofConst v = some x) : VRel m x v := by
  unfold ofConst at h
  split at h
  · rename_i cs
    cases hl : cs.toList.mapM ofCell with
    | none => simp [hl] at h
    | some xs =>
      simp only [hl, Option.map_some, Option.some.injEq] at h
      subst h
      simp only [VRel]
      exact ⟨cs, rfl, mapM_cells _ _ hl⟩
  · exact ofCell_rel _ _ h

theorem tyZero_spec {P : Program} {t : TypeId} {z : AV} (h : tyZero P t = some z) : ∃ i v, P.info? t = some i ∧ i.zero = some v ∧ ∀ m, VRel m z v := by
  unfold tyZero at h
  cases hi : P.info? t with
  | none => simp [hi] at h
  | some i =>
    cases hz : i.zero with
    | none => simp [hi, hz] at h
    | some v =>
      simp [hi, hz] at h
      exact ⟨i, v, rfl, hz, fun m => ofConst_rel h⟩
theorem run_zeroValue' {P : Program} {t : TypeId} {i : TypeInfo} {v : Value} (hi : P.info? t = some i) (hz : i.zero = some v) (w : World) : (zeroValue t).run P w = .ok v w := by
  simp [zeroValue, typeInfo, hi, hz]

theorem foldl_splice : ∀ (vs : List Value) (k off : Nat) (cs : Array Value), off + k + vs.length ≤ cs.size →
    ((vs.zipIdx k).foldl (fun (cs : Array Value) (p : Value × Nat) => cs.setIfInBounds (off + p.2) p.1) cs).toList = splice cs.toList (off + k) vs
  | [], k, off, cs, h => by simp [splice]
  | v :: vs, k, off, cs, h => by
    simp only [List.zipIdx_cons, List.foldl_cons]
    have ih := foldl_splice vs (k + 1) off (cs.setIfInBounds (off + k) v) (by simp at h ⊢; omega)
    rw [ih]
    apply List.ext_getElem?
    intro j
    rw [splice_get _ _ _ (by simp at h ⊢; omega), splice_get _ _ _ (by simp at h ⊢; omega)]
    simp only [Array.toList_setIfInBounds, List.length_cons]
    by_cases e1 : j < off + k
    · rw [if_pos (by omega), if_pos e1, List.getElem?_set_ne (by omega)]
    · rw [if_neg e1]
      by_cases e2 : j = off + k
      · subst e2
        rw [if_pos (by omega), if_pos (by omega), List.getElem?_set_self (by simp at h ⊢; omega)]
        simp
      · rw [if_neg (by omega)]
        by_cases e3 : j < off + (k + 1) + vs.length
        · rw [if_pos e3, if_pos (by omega)]
          rw [show j - (off + k) = (j - (off + (k + 1))) + 1 by omega]
          simp
        · rw [if_neg e3, if_neg (by omega), List.getElem?_set_ne (by omega)]

/-- Parts of a literal. -/
def PRel (m : M) : List (Nat × AV) → List (Nat × Value) → Prop
  | [], l => l = []
  | (i, x) :: xs, l => ∃ v vs, l = (i, v) :: vs ∧ VRel m x v ∧ PRel m xs vs

theorem fillA_ok {m : M} (place : Nat → Option (Nat × Nat)) : ∀ (parts : List (Nat × AV)) (cparts : List (Nat × Value)) (cells : List AV) (ccells : Array Value) (out : List AV),
    PRel m parts cparts → VRelL m cells ccells.toList → fillA place cells parts = some out → ∃ cout, Instr.fill place ccells cparts = some cout ∧ VRelL m out cout.toList
  | [], cparts, cells, ccells, out, hp, hr, he => by
    simp only [PRel] at hp
    subst hp
    simp only [fillA, Option.some.injEq] at he
    subst he
    exact ⟨ccells, by simp [Instr.fill], hr⟩
  | (i, x) :: parts, cparts, cells, ccells, out, hp, hr, he => by
    simp only [PRel] at hp
    obtain ⟨v, vs, rfl, h1, h2⟩ := hp
    simp only [fillA] at he
    split at he
    · cases he
    · rename_i off size hpl
      split at he
      · cases he
      · rename_i hc
        simp only [Bool.or_eq_true, decide_eq_true_eq, not_or] at hc
        obtain ⟨c1, c2⟩ := hc
        have hvl := VCells_length h1
        have hvl' : v.cells.size = x.cells.length := hvl
        have hcl : ccells.size = cells.length := hr.length
        have hsp : (v.cells.zipIdx.foldl (fun cs (p : Value × Nat) => cs.setIfInBounds (off + p.2) p.1) ccells).toList = splice ccells.toList off (VCells v) := by
          rw [← Array.foldl_toList, Array.toList_zipIdx]
          have := foldl_splice v.cells.toList 0 off ccells (by simp; omega)
          simp only [Nat.add_zero] at this
          exact this
        obtain ⟨cout, k1, k2⟩ := fillA_ok place parts vs _ (v.cells.zipIdx.foldl (fun cs (p : Value × Nat) => cs.setIfInBounds (off + p.2) p.1) ccells) out h2
          (by rw [hsp]; exact hr.splice h1.cells off) he
        refine ⟨cout, ?_, k2⟩
        simp only [Instr.fill, hpl]
        rw [if_neg (by simp; omega)]
        exact k1

theorem structPlaces_run {P : Program} {w : World} (fields : Array Field) {places : List (Nat × Nat)} (h : structPlaces P fields = some places) :
    (fields.mapM (m := Sem) fun f => do pure (f.offset, ← sizeOf f.type)).run P w = .ok places.toArray w := by
  unfold structPlaces at h
  rw [Array.mapM_eq_mapM_toList]
  have key : ∀ (l : List Field) (ps : List (Nat × Nat)), (l.mapM fun f => (tySize P f.type).map fun n => (f.offset, n)) = some ps →
      (l.mapM (m := Sem) fun f => do pure (f.offset, ← sizeOf f.type)).run P w = .ok ps w := by
    intro l
    induction l with
    | nil => intro ps h; simp at h; subst h; simp
    | cons f l ih =>
      intro ps h
      rw [List.mapM_cons] at h
      cases hs : tySize P f.type with
      | none => simp [hs] at h
      | some n =>
        cases hl : (l.mapM fun f => (tySize P f.type).map fun n => (f.offset, n)) with
        | none => simp [hs, hl] at h
        | some qs =>
          simp [hs, hl] at h
          subst h
          rw [List.mapM_cons]
          simp only [Sem.run_bind, run_sizeOf' hs, Result.andThen_ok, Sem.run_pure, ih qs hl]
  simp only [Sem.run_map, key _ _ h, Result.andThen_ok]

theorem buildA_ok {P : Program} {m : M} {w : World} {t : TypeId} {parts : List (Nat × AV)} {z : AV} (he : buildA P t parts = some z) {cparts : Array (Nat × Value)} (hp : PRel m parts cparts.toList) :
    ∃ r, (Instr.build t cparts).run P w = .ok r w ∧ VRel m z r := by
  unfold buildA at he
  split at he
  · rename_i z0 fields hz hu
    obtain ⟨i, zv, g1, g2, g3⟩ := tyZero_spec hz
    split at he
    · rename_i places hpl
      cases hf : fillA (places[·]?) z0.cells parts with
      | none => simp [hf] at he
      | some out =>
        simp only [hf, Option.map_some, Option.some.injEq] at he
        subst he
        obtain ⟨cout, k1, k2⟩ := fillA_ok (places[·]?) parts cparts.toList _ zv.cells out hp (g3 m).cells hf
        refine ⟨.agg cout, ?_, by simp only [VRel]; exact ⟨cout, rfl, k2⟩⟩
        have hpl' := structPlaces_run (P := P) (w := w) fields hpl
        simp only [Instr.build, Sem.run_bind, run_zeroValue' g1 g2, Result.andThen_ok, run_underlying hu]
        rw [hpl']
        simp [k1]
    · cases he
  · rename_i z0 len e hz hu
    obtain ⟨i, zv, g1, g2, g3⟩ := tyZero_spec hz
    split at he
    · rename_i n hs
      cases hf : fillA (fun i => some (i * n, n)) z0.cells parts with
      | none => simp [hf] at he
      | some out =>
        simp only [hf, Option.map_some, Option.some.injEq] at he
        subst he
        obtain ⟨cout, k1, k2⟩ := fillA_ok (fun i => some (i * n, n)) parts cparts.toList _ zv.cells out hp (g3 m).cells hf
        refine ⟨.agg cout, ?_, by simp only [VRel]; exact ⟨cout, rfl, k2⟩⟩
        simp [Instr.build, run_zeroValue' g1 g2, run_underlying hu, run_sizeOf' hs, k1]
    · cases he
  · cases he

theorem lenA_ok {P : Program} {m : M} {w : World} {t ty : TypeId} {ts : Array TypeId} (ht : ts[0]? = some t) {x z : AV} (he : lenA P t x = some z) {us : Array Value} {u : Value} (hu0 : us[0]? = some u) (hx : VRel m x u) :
    ∃ r, (Builtin.len_ ts ty us).run P w = .ok r w ∧ VRel m z r := by
  unfold lenA at he
  split at he
  · rename_i s hu
    simp only [Option.some.injEq] at he; subst he
    simp only [VRel] at hx
    obtain ⟨b, rfl, rfl⟩ := hx
    refine ⟨goInt b.size, by simp [Builtin.len_, ht, hu0, run_underlying hu], ?_⟩
    simp only [goInt, VRel]
    rfl
  · rename_i n e hu
    simp only [Option.some.injEq] at he; subst he
    exact ⟨goInt n, by simp [Builtin.len_, ht, hu0, run_underlying hu], by simp only [goInt, VRel]⟩
  · rename_i a hu
    split at he
    · rename_i n e ha
      simp only [Option.some.injEq] at he; subst he
      exact ⟨goInt n, by simp [Builtin.len_, ht, hu0, run_underlying hu, run_underlying ha], by simp only [goInt, VRel]⟩
    · cases he
  · rename_i e xs nn cap tok hu
    simp only [Option.some.injEq] at he; subst he
    simp only [VRel] at hx
    rcases hx with ⟨rfl, _, _, _, rfl⟩ | ⟨a, cap', cvs, s, rfl, _⟩
    · exact ⟨goInt 0, by simp [Builtin.len_, ht, hu0, run_underlying hu], by simp only [goInt, VRel]; rfl⟩
    · exact ⟨goInt xs.length, by simp [Builtin.len_, ht, hu0, run_underlying hu], by simp only [goInt, VRel]⟩
  · rename_i e hu
    simp only [Option.some.injEq] at he; subst he
    simp only [VRel] at hx
    subst hx
    exact ⟨goInt 0, by simp [Builtin.len_, ht, hu0, run_underlying hu], by simp only [goInt, VRel]⟩
  · rename_i e b o n c hu
    simp only [Option.some.injEq] at he; subst he
    simp only [VRel] at hx
    obtain ⟨c, _, rfl⟩ := hx
    exact ⟨goInt n, by simp [Builtin.len_, ht, hu0, run_underlying hu], by simp only [goInt, VRel]⟩
  · cases he

theorem minA_spec {m : M} {less : Bool} {x y z : AV} (he : minA less x y = some z) {u v : Value} (hx : VRel m x u) (hy : VRel m y v) :
    ∃ k a b, u = .int k a ∧ v = .int k b ∧ z = .int k (if less then (if b < a then b else a) else (if b > a then b else a)) := by
  unfold minA at he
  split at he
  · split at he
    · rename_i hk
      subst hk
      simp only [Option.some.injEq] at he
      exact ⟨_, _, _, hx.int', hy.int', he.symm⟩
    · cases he
  · cases he

theorem minsA_min {P : Program} {m : M} {w : World} : ∀ (rest : List AV) (x z : AV) (us : List Value) (u : Value), rest.foldlM (minA true) x = some z → VRel m x u → VRelL m rest us →
    ∃ r, (us.foldlM Builtin.min2 u).run P w = .ok r w ∧ VRel m z r
  | [], x, z, us, u, he, hx, hr => by
    simp only [VRelL] at hr; subst hr
    simp at he; subst he
    exact ⟨u, by simp, hx⟩
  | y :: rest, x, z, us, u, he, hx, hr => by
    simp only [VRelL] at hr
    obtain ⟨v, vs, rfl, h1, h2⟩ := hr
    rw [List.foldlM_cons] at he
    cases hq : minA true x y with
    | none => simp [hq] at he
    | some q =>
      simp [hq] at he
      obtain ⟨k, a, b, rfl, rfl, rfl⟩ := minA_spec hq hx h1
      obtain ⟨r, k1, k2⟩ := minsA_min (P := P) (w := w) rest _ z vs (.int k (if b < a then b else a)) he (by simp only [VRel, if_true]) h2
      refine ⟨r, ?_, k2⟩
      rw [List.foldlM_cons]
      simp [Builtin.min2, k1]
theorem minsA_max {P : Program} {m : M} {w : World} : ∀ (rest : List AV) (x z : AV) (us : List Value) (u : Value), rest.foldlM (minA false) x = some z → VRel m x u → VRelL m rest us →
    ∃ r, (us.foldlM Builtin.max2 u).run P w = .ok r w ∧ VRel m z r
  | [], x, z, us, u, he, hx, hr => by
    simp only [VRelL] at hr; subst hr
    simp at he; subst he
    exact ⟨u, by simp, hx⟩
  | y :: rest, x, z, us, u, he, hx, hr => by
    simp only [VRelL] at hr
    obtain ⟨v, vs, rfl, h1, h2⟩ := hr
    rw [List.foldlM_cons] at he
    cases hq : minA false x y with
    | none => simp [hq] at he
    | some q =>
      simp [hq] at he
      obtain ⟨k, a, b, rfl, rfl, rfl⟩ := minA_spec hq hx h1
      obtain ⟨r, k1, k2⟩ := minsA_max (P := P) (w := w) rest _ z vs (.int k (if b > a then b else a)) he (by simp only [VRel]; simp) h2
      refine ⟨r, ?_, k2⟩
      rw [List.foldlM_cons]
      simpa [Builtin.max2] using k1

theorem minsA_ok {P : Program} {m : M} {w : World} {ts : Array TypeId} {ty : TypeId} (less : Bool) {vs : List AV} {z : AV} (he : minsA less vs = some z) {us : Array Value} (hr : VRelL m vs us.toList) :
    ∃ r, ((if less then Builtin.min_ ts ty us else Builtin.max_ ts ty us)).run P w = .ok r w ∧ VRel m z r := by
  unfold minsA at he
  split at he
  · cases he
  · rename_i x rest
    simp only [VRelL] at hr
    obtain ⟨u, us', hu, h1, h2⟩ := hr
    cases less with
    | true =>
      obtain ⟨r, k1, k2⟩ := minsA_min (P := P) (w := w) rest x z us' u he h1 h2
      exact ⟨r, by simp [Builtin.min_, hu, k1], k2⟩
    | false =>
      obtain ⟨r, k1, k2⟩ := minsA_max (P := P) (w := w) rest x z us' u he h1 h2
      exact ⟨r, by simp [Builtin.max_, hu, k1], k2⟩

/-- []byte's elements as octets. -/
theorem bytesOf_spec {m : M} : ∀ (xs : List AV) (s : List UInt8) (vs : List Value), bytesOf xs = some s → VRelL m xs vs → ∃ ns : List Int, vs = ns.map (Value.int .u8) ∧ s = ns.map fun n => UInt8.ofNat n.toNat
  | [], s, vs, h, hr => by
    simp only [VRelL] at hr; subst hr
    simp only [bytesOf, Option.some.injEq] at h; subst h
    exact ⟨[], rfl, rfl⟩
  | .int .u8 n :: xs, s, vs, h, hr => by
    simp only [VRelL] at hr
    obtain ⟨v, us, rfl, h1, h2⟩ := hr
    simp only [bytesOf] at h
    cases hq : bytesOf xs with
    | none => simp [hq] at h
    | some q =>
      simp only [hq, Option.map_some, Option.some.injEq] at h
      subst h
      obtain ⟨ns, rfl, rfl⟩ := bytesOf_spec xs q us hq h2
      exact ⟨n :: ns, by rw [h1.int']; rfl, rfl⟩
  | x :: xs, s, vs, h, hr => by
    unfold bytesOf at h
    split at h
    · rename_i heq; cases heq
    · rename_i heq
      cases heq
      simp only [VRelL] at hr
      obtain ⟨v, us, rfl, h1, h2⟩ := hr
      cases hq : bytesOf xs with
      | none => simp [hq] at h
      | some q =>
        simp only [hq, Option.map_some, Option.some.injEq] at h
        subst h
        obtain ⟨ns, rfl, rfl⟩ := bytesOf_spec xs q us hq h2
        exact ⟨_ :: ns, by rw [h1.int']; rfl, rfl⟩
    · cases h

end Go.Proofs.Ytnifldbmflkmpaa.Ev
