/-
  Steps that change memory: new rows, stores, a list that grows.
-/
import Derived.Test.YtnifldbmflkmpaaEvF
import Derived.Below
namespace Go.Proofs.Ytnifldbmflkmpaa.Ev
open Go
set_option linter.unusedVariables false
set_option linter.unusedSimpArgs false

theorem Touch.lt {m : M} {h : Heap} {w : World} (hi : Inv m h w) {c : Nat} (ht : Touch m h c) : c < w.heap.size := by
  rcases ht with ⟨i, cs, e, h1⟩ | ⟨i, n, sz, a, cap, e, h1, h2⟩
  · obtain ⟨d, cvs, t, k1, k2, _⟩ := hi.var i cs e
    rw [h1] at k1
    cases k1
    exact (Array.getElem?_eq_some_iff.1 k2).1
  · obtain ⟨b, cb, k1, k2⟩ := hi.own i n sz e
    rw [h1] at k1
    cases k1
    subst h2
    exact k2.lt

theorem F_lt {m : M} {h : Heap} {w : World} (hi : Inv m h w) {a : Addr} {v : Value} (e : m.F a = some v) : a.block < w.heap.size :=
  World.block_lt_of_cell? w a (hi.f a v e)

/-- A new row whose first cells never change. -/
theorem Step.newRow {m : M} {h : Heap} {w : World} (hi : Inv m h w) (arr : Array Value) (t : TypeId) (fr : Nat × Nat) (k : Nat) (ho : ∀ v ∈ arr.toList.take k, v.oneCell' = true) :
    ∃ m', Step w.heap.size m h w m' h (w.alloc (.cells arr t fr)) ∧ CellsF m'.F ⟨w.heap.size, 0, none⟩ (arr.toList.take k) ∧ m'.mu = m.mu ∧ m'.rho = m.rho ∧
      ∀ j, k ≤ j → m'.F ⟨w.heap.size, j, none⟩ = none := by
  have s1 := Step.push (B := w.heap.size) hi (Nat.le_refl _) (.cells arr t fr)
  have hrow : (w.alloc (.cells arr t fr)).heap[w.heap.size]? = some (.cells arr t fr) := heap_alloc_new w _
  let G : Addr → Option Value := fun a => if a.block = w.heap.size ∧ a.spot = none ∧ a.off < k then arr[a.off]? else none
  have s2 := Step.fro (B := w.heap.size) s1.inv G (by
      intro a v e
      simp only [G] at e
      split at e
      · rename_i hc
        obtain ⟨b, o, s⟩ := a
        obtain ⟨h1, h2, h3⟩ := hc
        simp only at h1 h2 h3 e
        subst h1 h2
        rw [cell_row hrow]; exact e
      · cases e) (by
      intro a v e
      simp only [G] at e
      split at e
      · rename_i hc
        refine ho v (List.mem_of_getElem? (i := a.off) ?_)
        rw [List.getElem?_take, if_pos hc.2.2]
        simpa using e
      · cases e) (by
      intro a v e j cs e' h1
      simp only [G] at e
      split at e
      · rename_i hc
        have := Touch.lt hi (.inl ⟨j, cs, e', h1⟩)
        omega
      · cases e) (by
      intro i n sz a cap e h1 j _ _
      have := Touch.lt hi (.inr ⟨i, n, sz, a, cap, e, h1, rfl⟩)
      simp only [G]
      rw [if_neg (by rintro ⟨h1, _⟩; omega)]) (by
      intro a v e
      simp only [G] at e
      split at e
      · rename_i hc; exact .inl (by omega)
      · cases e)
  refine ⟨_, s1.trans s2, ?_, rfl, rfl, ?_⟩
  · intro i v hv
    have hF : m.F ⟨w.heap.size, 0 + i, none⟩ = none := by
      cases hF : m.F ⟨w.heap.size, 0 + i, none⟩ with
      | none => rfl
      | some u => have := F_lt hi hF; simp at this
    simp only [hF]
    rw [List.getElem?_take] at hv
    split at hv
    · rename_i hik
      simp only [G, Nat.zero_add]
      rw [if_pos ⟨trivial, trivial, hik⟩]
      simpa using hv
    · cases hv
  · intro j hj
    have hF : m.F ⟨w.heap.size, j, none⟩ = none := by
      cases hF : m.F ⟨w.heap.size, j, none⟩ with
      | none => rfl
      | some u => have := F_lt hi hF; simp at this
    simp only [hF, G]
    rw [if_neg (by rintro ⟨_, _, h3⟩; omega)]

/-- A new variable. -/
theorem Step.newVar {m : M} {h : Heap} {w : World} (hi : Inv m h w) (cvs : Array Value) (t : TypeId) (cs : List AV) (hr : VRelL m cs cvs.toList) (ho : ∀ v ∈ cvs.toList, v.oneCell' = true) :
    ∃ m', Step w.heap.size m h w m' (h ++ [.cells cs]) (w.alloc (.cells cvs t)) ∧ m'.mu h.length = some w.heap.size := by
  have s1 := Step.push (B := w.heap.size) hi (Nat.le_refl _) (.cells cvs t)
  have s2 := Step.var (B := w.heap.size) s1.inv w.heap.size (Nat.le_refl _) cvs t cs (heap_alloc_new w _) hr ho
    (fun a ha => by
      cases hF : m.F a with
      | none => rfl
      | some u => have := F_lt hi hF; omega)
    (fun ht => by have := Touch.lt hi ht; omega)
  exact ⟨_, s1.trans s2, by simp⟩

theorem splice_length {α : Type} (cs : List α) (o : Nat) (vs : List α) (h : o + vs.length ≤ cs.length) : (splice cs o vs).length = cs.length := by
  simp [splice]; omega
theorem splice_get {α : Type} (cs : List α) (o : Nat) (vs : List α) (h : o + vs.length ≤ cs.length) (j : Nat) : (splice cs o vs)[j]? = if j < o then cs[j]? else if j < o + vs.length then vs[j - o]? else cs[j]? := by
  unfold splice
  have hl : (cs.take o).length = o := by simp; omega
  by_cases h1 : j < o
  · rw [if_pos h1, List.append_assoc, List.getElem?_append_left (by omega), List.getElem?_take, if_pos h1]
  · rw [if_neg h1]
    by_cases h2 : j < o + vs.length
    · rw [if_pos h2, List.getElem?_append_left (by simp; omega), List.getElem?_append_right (by omega), hl]
    · rw [if_neg h2, List.getElem?_append_right (by simp; omega), List.getElem?_drop]
      congr 1
      simp
      omega
theorem VRelL.splice {m : M} {xs ys : List AV} {vs us : List Value} (h : VRelL m xs vs) (h' : VRelL m ys us) (o : Nat) : VRelL m (splice xs o ys) (Ev.splice vs o us) := by
  unfold Ev.splice
  rw [h'.length]
  exact ((h.take o).append h').append (h.drop _)

theorem setCells_heap (b : Nat) : ∀ (vs : List Value) (o : Nat) (w : World) (c : Nat), c ≠ b → (w.setCells b o vs).heap[c]? = w.heap[c]?
  | [], _, _, _, _ => rfl
  | v :: r, o, w, c, h => by
    rw [World.setCells, setCells_heap b r (o + 1) _ c h]
    exact Go.RowKit.Below.heap_setCell w ⟨b, o, none⟩ v c h
theorem setCells_row (b : Nat) (t : TypeId) (fr : Nat × Nat) : ∀ (vs : List Value) (o : Nat) (w : World) (arr : Array Value), w.heap[b]? = some (.cells arr t fr) → o + vs.length ≤ arr.size →
    ∃ arr', (w.setCells b o vs).heap[b]? = some (.cells arr' t fr) ∧ arr'.toList = splice arr.toList o vs
  | [], o, w, arr, h, hl => ⟨arr, h, by simp [splice]⟩
  | v :: r, o, w, arr, h, hl => by
    have h1 : (w.setCell ⟨b, o, none⟩ v).heap[b]? = some (.cells (arr.setIfInBounds o v) t fr) := by
      have hb := (Array.getElem?_eq_some_iff.1 h).1
      have hb2 := (Array.getElem?_eq_some_iff.1 h).2
      simp [World.setCell, Array.getElem?_modify, h]
    obtain ⟨arr', h2, h3⟩ := setCells_row b t fr r (o + 1) _ _ h1 (by simp at hl ⊢; omega)
    refine ⟨arr', h2, ?_⟩
    rw [h3]
    apply List.ext_getElem?
    intro j
    rw [splice_get _ _ _ (by simp at hl ⊢; omega), splice_get _ _ _ (by simp at hl ⊢; omega)]
    simp only [Array.toList_setIfInBounds, List.length_cons]
    by_cases e1 : j < o
    · rw [if_pos (by omega), if_pos e1, List.getElem?_set_ne (by omega)]
    · rw [if_neg e1]
      by_cases e2 : j = o
      · subst e2
        rw [if_pos (by omega), if_pos (by omega), List.getElem?_set_self (by simp at hl ⊢; omega)]
        simp
      · rw [if_neg (by omega)]
        by_cases e3 : j < o + 1 + r.length
        · rw [if_pos e3, if_pos (by omega)]
          rw [show j - o = (j - (o + 1)) + 1 by omega]
          simp
        · rw [if_neg e3, if_neg (by omega), List.getElem?_set_ne (by omega)]
theorem setCells_size (b : Nat) : ∀ (vs : List Value) (o : Nat) (w : World), (w.setCells b o vs).heap.size = w.heap.size
  | [], _, _ => rfl
  | v :: r, o, w => by rw [World.setCells, setCells_size b r]; simp [World.setCell]
theorem setCells_os (b : Nat) : ∀ (vs : List Value) (o : Nat) (w : World), (w.setCells b o vs).os = w.os ∧ (w.setCells b o vs).tape = w.tape ∧ (w.setCells b o vs).output = w.output
  | [], _, _ => ⟨rfl, rfl, rfl⟩
  | v :: r, o, w => by rw [World.setCells]; exact setCells_os b r (o + 1) _

/-- A store into a variable of the small heap. -/
theorem Step.set {B : Nat} {m : M} {h : Heap} {w : World} (hi : Inv m h w) {b : Nat} {cs : List AV} (hb : h[b]? = some (.cells cs)) {c : Nat} (hc : m.mu b = some c) (o : Nat) (vs : List AV) (us : List Value)
    (hr : VRelL m vs us) (ho : ∀ v ∈ us, v.oneCell' = true) (hl : o + vs.length ≤ cs.length) : Step B m h w m (h.set b (.cells (splice cs o vs))) (w.setCells c o us) := by
  obtain ⟨c', cvs, t, k1, k2, k3, k4, k5⟩ := hi.var b cs hb
  rw [hc] at k1
  cases k1
  have hlen := k3.length
  have hul := hr.length
  obtain ⟨arr', r1, r2⟩ := setCells_row c t (0, 0) us o w cvs k2 (by simp at hlen; omega)
  have hos := setCells_os c us o w
  have hbl := (List.getElem?_eq_some_iff.1 hb).1
  have hcell : ∀ a, a.block ≠ c → (w.setCells c o us).cell? a = w.cell? a := fun a ha => World.cell?_of_block (setCells_heap c us o w a.block ha)
  have hvars : ∀ (i : Nat) (ds : List AV), (h.set b (.cells (splice cs o vs)))[i]? = some (.cells ds) → ∃ es, h[i]? = some (.cells es) := by
    intro i ds e
    rcases getElem?_set_some e with ⟨rfl, _⟩ | ⟨_, e⟩
    · exact ⟨cs, hb⟩
    · exact ⟨ds, e⟩
  have hown : ∀ (i n sz : Nat), (h.set b (.cells (splice cs o vs)))[i]? = some (.own n sz) → h[i]? = some (.own n sz) := by
    intro i n sz e
    rcases getElem?_set_some e with ⟨rfl, q⟩ | ⟨_, e⟩
    · cases q
    · exact e
  refine ⟨M.le.refl m, ⟨?_, hi.fone, ?_, ?_, ?_, ?_, ?_, ?_, ?_⟩, by rw [setCells_size]; exact Nat.le_refl _, hos.1, hos.2.1, hos.2.2, ?_, ?_, fun _ _ e => .inl e⟩
  · intro a v e
    rw [hcell a (fun ha => by rw [k4 a ha] at e; cases e)]
    exact hi.f a v e
  · intro i ds e
    rcases getElem?_set_some e with ⟨rfl, q⟩ | ⟨hne, e⟩
    · cases q
      refine ⟨c, arr', t, hc, r1, by rw [r2]; exact k3.splice hr o, k4, fun v hv => ?_⟩
      rw [r2] at hv
      unfold Ev.splice at hv
      simp only [List.mem_append] at hv
      rcases hv with (hv | hv) | hv
      · exact k5 v (List.mem_of_mem_take hv)
      · exact ho v hv
      · exact k5 v (List.mem_of_mem_drop hv)
    · obtain ⟨d, dvs, u, g1, g2, g3, g4⟩ := hi.var i ds e
      refine ⟨d, dvs, u, g1, ?_, g3, g4⟩
      rw [setCells_heap c us o w d (fun hd => hne (hi.inj i b ds cs c e hb (hd ▸ g1) hc))]
      exact g2
  · intro i j ds es d e e' h1 h2
    obtain ⟨ds', e⟩ := hvars i ds e
    obtain ⟨es', e'⟩ := hvars j es e'
    exact hi.inj i j ds' es' d e e' h1 h2
  · intro i n sz e
    obtain ⟨a, cap, g1, g2⟩ := hi.own i n sz (hown i n sz e)
    have hne : a.block ≠ c := fun ha => g2.var b cs hb (ha ▸ hc)
    refine ⟨a, cap, g1, g2.spot, g2.le, fun j j1 j2 => ?_, by rw [setCells_size]; exact g2.lt, fun k ds e' => ?_⟩
    · obtain ⟨f1, f2, f3⟩ := g2.cell j j1 j2
      exact ⟨by rw [hcell ⟨a.block, a.off + j, none⟩ hne]; exact f1, by rw [World.frozen?_setCells]; exact f2, f3⟩
    · obtain ⟨ds', e'⟩ := hvars k ds e'
      exact g2.var k ds' e'
  · intro i j n k sz tz a b' ca cb e e' h1 h2 hne
    exact hi.apart i j n k sz tz a b' ca cb (hown _ _ _ e) (hown _ _ _ e') h1 h2 hne
  · intro i d e
    have := hi.mu i d e; simpa using this
  · intro i n r e
    have := hi.rho i n r e; simpa using this
  · intro i n k sz r e h1
    exact hi.cur i n k sz r (hown _ _ _ e) h1
  · intro d _ hd
    exact setCells_heap c us o w d (fun e => hd (.inl ⟨b, cs, hb, e ▸ hc⟩))
  · intro d hd
    rcases hd with ⟨i, ds, e, h1⟩ | ⟨i, n, sz, a, cap, e, h1, h2⟩
    · obtain ⟨ds', e⟩ := hvars i ds e
      exact .inl (.inl ⟨i, ds', e, h1⟩)
    · exact .inl (.inr ⟨i, n, sz, a, cap, hown _ _ _ e, h1, h2⟩)

/-- Cells in the spare part of a list are written. -/
theorem Step.setSpare {B : Nat} {m : M} {h : Heap} {w : World} (hi : Inv m h w) {τ n sz : Nat} (hτ : h[τ]? = some (.own n sz)) {a : Addr} {cap : Nat} (hr : m.rho τ n = some (a, cap)) (us : List Value)
    (hl : n * sz + us.length ≤ cap * sz) : Step B m h w m h (w.setCells a.block (a.off + n * sz) us) := by
  obtain ⟨a', cap', k1, k2⟩ := hi.own τ n sz hτ
  rw [hr] at k1
  cases k1
  have hos := setCells_os a.block us (a.off + n * sz) w
  have hcell : ∀ x, x.block ≠ a.block → (w.setCells a.block (a.off + n * sz) us).cell? x = w.cell? x := fun x hx => World.cell?_of_block (setCells_heap _ us _ w x.block hx)
  refine ⟨M.le.refl m, ⟨?_, hi.fone, ?_, hi.inj, ?_, hi.apart, hi.mu, hi.rho, hi.cur⟩, by rw [setCells_size]; exact Nat.le_refl _, hos.1, hos.2.1, hos.2.2, ?_, fun _ h => .inl h, fun _ _ e => .inl e⟩
  · intro x v e
    rw [World.cell?_setCells_out _ _ _ _ _ (fun hx hs => ?_)]
    · exact hi.f x v e
    · refine Classical.byContradiction fun hc => ?_
      obtain ⟨b, o, s⟩ := x
      simp only at hx hs hc
      subst hx hs
      obtain ⟨_, _, f3⟩ := k2.cell (o - a.off) (by omega) (by omega)
      rw [show a.off + (o - a.off) = o by omega] at f3
      rw [f3] at e
      cases e
  · intro i ds e
    obtain ⟨d, dvs, u, g1, g2, g3, g4⟩ := hi.var i ds e
    refine ⟨d, dvs, u, g1, ?_, g3, g4⟩
    rw [setCells_heap _ us _ w d (fun hd => k2.var i ds e (by rw [← hd]; exact g1))]
    exact g2
  · intro i k tz e
    obtain ⟨b, cb, g1, g2⟩ := hi.own i k tz e
    refine ⟨b, cb, g1, g2.spot, g2.le, fun j j1 j2 => ?_, by rw [setCells_size]; exact g2.lt, g2.var⟩
    obtain ⟨⟨v, f1⟩, f2, f3⟩ := g2.cell j j1 j2
    refine ⟨?_, by rw [World.frozen?_setCells]; exact f2, f3⟩
    have := World.isSome_setCells a.block us (a.off + n * sz) w ⟨b.block, b.off + j, none⟩ (by rw [f1]; rfl)
    exact Option.isSome_iff_exists.1 this
  · intro d _ hd
    exact setCells_heap _ us _ w d (fun e => hd (.inr ⟨τ, n, sz, a, cap, hτ, hr, e.symm⟩))

end Go.Proofs.Ytnifldbmflkmpaa.Ev
