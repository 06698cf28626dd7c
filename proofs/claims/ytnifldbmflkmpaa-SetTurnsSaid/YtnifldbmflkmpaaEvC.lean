/-
  The invariant between the small heap and the model's memory, and the steps that keep it.
-/
import Derived.Test.YtnifldbmflkmpaaEvB
import Derived.Laws.AppendOwn
import Derived.Deep.MidRow
namespace Go.Proofs.Ytnifldbmflkmpaa.Ev
open Go
set_option linter.unusedVariables false
set_option linter.unusedSimpArgs false

/-- The blocks that belong to the small heap. -/
def Touch (m : M) (h : Heap) (c : Nat) : Prop :=
  (∃ i cs, h[i]? = some (.cells cs) ∧ m.mu i = some c) ∨ (∃ i n sz a cap, h[i]? = some (.own n sz) ∧ m.rho i n = some (a, cap) ∧ a.block = c)

/-- Cells that nobody but the owner of a right to append may use. -/
structure Spare (m : M) (h : Heap) (w : World) (n sz : Nat) (a : Addr) (cap : Nat) : Prop where
  spot : a.spot = none
  le : n ≤ cap
  cell : ∀ j, n * sz ≤ j → j < cap * sz → (∃ v, w.cell? ⟨a.block, a.off + j, none⟩ = some v) ∧ w.frozen? ⟨a.block, a.off + j, none⟩ = false ∧ m.F ⟨a.block, a.off + j, none⟩ = none
  lt : a.block < w.heap.size
  var : ∀ k cs, h[k]? = some (.cells cs) → m.mu k ≠ some a.block

structure Inv (m : M) (h : Heap) (w : World) : Prop where
  f : ∀ a v, m.F a = some v → w.cell? a = some v
  fone : ∀ a v, m.F a = some v → v.oneCell' = true
  var : ∀ i cs, h[i]? = some (.cells cs) → ∃ c cvs t, m.mu i = some c ∧ w.heap[c]? = some (.cells cvs t (0, 0)) ∧ VRelL m cs cvs.toList ∧ (∀ a, a.block = c → m.F a = none) ∧ ∀ v ∈ cvs.toList, v.oneCell' = true
  inj : ∀ i j cs ds c, h[i]? = some (.cells cs) → h[j]? = some (.cells ds) → m.mu i = some c → m.mu j = some c → i = j
  own : ∀ i n sz, h[i]? = some (.own n sz) → ∃ a cap, m.rho i n = some (a, cap) ∧ Spare m h w n sz a cap
  apart : ∀ i j n k sz tz a b ca cb, h[i]? = some (.own n sz) → h[j]? = some (.own k tz) → m.rho i n = some (a, ca) → m.rho j k = some (b, cb) → i ≠ j → a.block ≠ b.block
  mu : ∀ i c, m.mu i = some c → i < h.length
  rho : ∀ i n r, m.rho i n = some r → i < h.length
  cur : ∀ i n k sz r, h[i]? = some (.own n sz) → m.rho i k = some r → k ≤ n

/-- From one state to a later one: more is known; blocks below B that don't belong to the small heap are as they were. -/
structure Step (B : Nat) (m : M) (h : Heap) (w : World) (m' : M) (h' : Heap) (w' : World) : Prop where
  le : m.le m'
  inv : Inv m' h' w'
  size : w.heap.size ≤ w'.heap.size
  os : w'.os = w.os
  tape : w'.tape = w.tape
  output : w'.output = w.output
  frame : ∀ c, c < B → ¬ Touch m h c → w'.heap[c]? = w.heap[c]?
  touch : ∀ c, Touch m' h' c → Touch m h c ∨ B ≤ c
  fnew : ∀ a v, m'.F a = some v → m.F a = some v ∨ Touch m h a.block ∨ B ≤ a.block

theorem Step.refl {B : Nat} {m : M} {h : Heap} {w : World} (hi : Inv m h w) : Step B m h w m h w :=
  ⟨M.le.refl m, hi, Nat.le_refl _, rfl, rfl, rfl, fun _ _ _ => rfl, fun _ h => .inl h, fun _ _ h => .inl h⟩

theorem Step.trans {B : Nat} {m m1 m2 : M} {h h1 h2 : Heap} {w w1 w2 : World} (s : Step B m h w m1 h1 w1) (t : Step B m1 h1 w1 m2 h2 w2) : Step B m h w m2 h2 w2 where
  le := s.le.trans t.le
  inv := t.inv
  size := Nat.le_trans s.size t.size
  os := t.os.trans s.os
  tape := t.tape.trans s.tape
  output := t.output.trans s.output
  frame := fun c hc hn => (t.frame c hc fun ht => (s.touch c ht).elim hn (fun h => by omega)).trans (s.frame c hc hn)
  touch := fun c hc => (t.touch c hc).elim (fun h => s.touch c h) .inr
  fnew := fun a v hv => by
    rcases t.fnew a v hv with h | h | h
    · exact s.fnew a v h
    · rcases s.touch _ h with h | h
      · exact .inr (.inl h)
      · exact .inr (.inr h)
    · exact .inr (.inr h)

theorem Step.mono {B B' : Nat} {m m' : M} {h h' : Heap} {w w' : World} (s : Step B' m h w m' h' w') (hb : B ≤ B') : Step B m h w m' h' w' where
  le := s.le
  inv := s.inv
  size := s.size
  os := s.os
  tape := s.tape
  output := s.output
  frame := fun c hc => s.frame c (Nat.lt_of_lt_of_le hc hb)
  touch := fun c hc => (s.touch c hc).imp id (Nat.le_trans hb)
  fnew := fun a v hv => (s.fnew a v hv).imp id (Or.imp id (Nat.le_trans hb))

/-- One behind the other, each counted from where it begins. -/
theorem Step.then {m m1 m2 : M} {h h1 h2 : Heap} {w w1 w2 : World} (s : Step w.heap.size m h w m1 h1 w1) (t : Step w1.heap.size m1 h1 w1 m2 h2 w2) : Step w.heap.size m h w m2 h2 w2 :=
  s.trans (t.mono s.size)

theorem cell?_heap {w w' : World} (h : w'.heap = w.heap) (a : Addr) : w'.cell? a = w.cell? a := by simp [World.cell?, h]
theorem frozen?_heap {w w' : World} (h : w'.heap = w.heap) (a : Addr) : w'.frozen? a = w.frozen? a := by simp [World.frozen?, h]

theorem Spare.world {m : M} {h : Heap} {w w' : World} {n sz : Nat} {a : Addr} {cap : Nat} (s : Spare m h w n sz a cap) (hs : w.heap.size ≤ w'.heap.size)
    (hc : ∀ j, n * sz ≤ j → j < cap * sz → (∃ v, w'.cell? ⟨a.block, a.off + j, none⟩ = some v) ∧ w'.frozen? ⟨a.block, a.off + j, none⟩ = false) : Spare m h w' n sz a cap :=
  ⟨s.spot, s.le, fun j h1 h2 => ⟨(hc j h1 h2).1, (hc j h1 h2).2, (s.cell j h1 h2).2.2⟩, Nat.lt_of_lt_of_le s.lt hs, s.var⟩

/-- The count of draws moves. -/
theorem Step.same {B : Nat} {m : M} {h : Heap} {w w' : World} (hi : Inv m h w) (hh : w'.heap = w.heap) (h1 : w'.os = w.os) (h2 : w'.tape = w.tape) (h3 : w'.output = w.output) : Step B m h w m h w' where
  le := M.le.refl m
  inv := ⟨fun a v e => by rw [cell?_heap hh]; exact hi.f a v e, hi.fone, fun i cs e => by rw [hh]; exact hi.var i cs e, hi.inj,
    fun i n sz e => by obtain ⟨a, cap, hr, hs⟩ := hi.own i n sz e; exact ⟨a, cap, hr, hs.world (by rw [hh]; exact Nat.le_refl _) fun j h1 h2 => ⟨by rw [cell?_heap hh]; exact (hs.cell j h1 h2).1, by rw [frozen?_heap hh]; exact (hs.cell j h1 h2).2.1⟩⟩,
    hi.apart, hi.mu, hi.rho, hi.cur⟩
  size := by rw [hh]; exact Nat.le_refl _
  os := h1
  tape := h2
  output := h3
  frame := fun c _ _ => by rw [hh]
  touch := fun _ h => .inl h
  fnew := fun _ _ h => .inl h

theorem heap_push_old (w : World) (o : Obj) (c : Nat) (h : c < w.heap.size) : (w.alloc o).heap[c]? = w.heap[c]? := heap_alloc_old w o c h

theorem cell_alloc_old {w : World} {a : Addr} {v : Value} (o : Obj) (h : w.cell? a = some v) : (w.alloc o).cell? a = some v := by
  rw [World.cell?_of_block (heap_alloc_old w o a.block (World.block_lt_of_cell? w a h))]; exact h
theorem frozen_alloc_old {w : World} {a : Addr} (o : Obj) (h : a.block < w.heap.size) : (w.alloc o).frozen? a = w.frozen? a :=
  World.frozen?_of_block (heap_alloc_old w o a.block h)

/-- A new block that nobody speaks of yet. -/
theorem Step.push {B : Nat} {m : M} {h : Heap} {w : World} (hi : Inv m h w) (hB : B ≤ w.heap.size) (o : Obj) : Step B m h w m h (w.alloc o) where
  le := M.le.refl m
  inv := ⟨fun a v e => cell_alloc_old o (hi.f a v e), hi.fone,
    fun i cs e => by
      obtain ⟨c, cvs, t, h1, h2, h3⟩ := hi.var i cs e
      exact ⟨c, cvs, t, h1, by rw [heap_alloc_old w o c (Array.getElem?_eq_some_iff.1 h2).1]; exact h2, h3⟩, hi.inj,
    fun i n sz e => by
      obtain ⟨a, cap, hr, hs⟩ := hi.own i n sz e
      refine ⟨a, cap, hr, hs.world (by simp) fun j h1 h2 => ?_⟩
      obtain ⟨⟨v, hv⟩, hz, _⟩ := hs.cell j h1 h2
      exact ⟨⟨v, cell_alloc_old o hv⟩, by rw [frozen_alloc_old (a := ⟨a.block, a.off + j, none⟩) o hs.lt]; exact hz⟩,
    hi.apart, hi.mu, hi.rho, hi.cur⟩
  size := by simp
  os := rfl
  tape := rfl
  output := rfl
  frame := fun c hc _ => heap_alloc_old w o c (Nat.lt_of_lt_of_le hc hB)
  touch := fun _ h => .inl h
  fnew := fun _ _ h => .inl h

theorem getElem?_snoc {α : Type} (l : List α) (x : α) (i : Nat) (y : α) (h : (l ++ [x])[i]? = some y) : l[i]? = some y ∨ (i = l.length ∧ y = x) := by
  rcases Nat.lt_trichotomy i l.length with hi | hi | hi
  · rw [List.getElem?_append_left hi] at h; exact .inl h
  · subst hi
    rw [List.getElem?_append_right (Nat.le_refl _)] at h
    simp at h
    exact .inr ⟨rfl, h.symm⟩
  · rw [List.getElem?_append_right (by omega)] at h
    rw [List.getElem?_eq_none (by simp; omega)] at h
    cases h
theorem getElem?_old {α : Type} {l : List α} {x : α} {i : Nat} {y : α} (h : l[i]? = some y) : (l ++ [x])[i]? = some y := by
  rw [List.getElem?_append_left (List.getElem?_eq_some_iff.1 h).1]; exact h

/-- A heap object of variables is laid over a block that nobody speaks of. -/
theorem Step.var {B : Nat} {m : M} {h : Heap} {w : World} (hi : Inv m h w) (c : Nat) (hc : B ≤ c) (cvs : Array Value) (t : TypeId) (cs : List AV)
    (hb : w.heap[c]? = some (.cells cvs t (0, 0))) (hr : VRelL m cs cvs.toList) (ho : ∀ v ∈ cvs.toList, v.oneCell' = true) (hF : ∀ a, a.block = c → m.F a = none) (hT : ¬ Touch m h c) :
    Step B m h w ⟨m.F, fun i => if i = h.length then some c else m.mu i, m.rho⟩ (h ++ [.cells cs]) w := by
  have hle : m.le ⟨m.F, fun i => if i = h.length then some c else m.mu i, m.rho⟩ :=
    ⟨fun _ _ e => e, fun i d e => by have := hi.mu i d e; simp only [if_neg (Nat.ne_of_lt this)]; exact e, fun _ _ _ e => e⟩
  refine ⟨hle, ⟨hi.f, hi.fone, ?_, ?_, ?_, ?_, ?_, ?_, ?_⟩, Nat.le_refl _, rfl, rfl, rfl, fun _ _ _ => rfl, ?_, fun _ _ e => .inl e⟩
  · intro i ds e
    rcases getElem?_snoc _ _ _ _ e with e | ⟨rfl, q⟩
    · obtain ⟨d, dvs, u, h1, h2, h3, h4⟩ := hi.var i ds e
      exact ⟨d, dvs, u, hle.mu _ _ h1, h2, VRelL.mono hle _ _ h3, h4⟩
    · cases q
      exact ⟨c, cvs, t, by simp, hb, VRelL.mono hle _ _ hr, hF, ho⟩
  · intro i j ds es d e e' h1 h2
    rcases getElem?_snoc _ _ _ _ e with e | ⟨rfl, q⟩ <;> rcases getElem?_snoc _ _ _ _ e' with e' | ⟨rfl, q'⟩
    · have hil := (List.getElem?_eq_some_iff.1 e).1
      have hjl := (List.getElem?_eq_some_iff.1 e').1
      simp only [if_neg (Nat.ne_of_lt hil), if_neg (Nat.ne_of_lt hjl)] at h1 h2
      exact hi.inj i j ds es d e e' h1 h2
    · have hil := (List.getElem?_eq_some_iff.1 e).1
      simp only [if_neg (Nat.ne_of_lt hil)] at h1
      simp at h2
      subst h2
      exact (hT (.inl ⟨i, ds, e, h1⟩)).elim
    · have hjl := (List.getElem?_eq_some_iff.1 e').1
      simp only [if_neg (Nat.ne_of_lt hjl)] at h2
      simp at h1
      subst h1
      exact (hT (.inl ⟨j, es, e', h2⟩)).elim
    · rfl
  · intro i n sz e
    rcases getElem?_snoc _ _ _ _ e with e | ⟨_, e⟩
    · obtain ⟨a, cap, h1, h2⟩ := hi.own i n sz e
      refine ⟨a, cap, h1, h2.spot, h2.le, h2.cell, h2.lt, fun k ds e' => ?_⟩
      rcases getElem?_snoc _ _ _ _ e' with e' | ⟨rfl, _⟩
      · have hkl := (List.getElem?_eq_some_iff.1 e').1
        simp only [if_neg (Nat.ne_of_lt hkl)]
        exact h2.var k ds e'
      · simp
        intro e0
        exact hT (.inr ⟨i, n, sz, a, cap, e, h1, e0.symm⟩)
    · cases e
  · intro i j n k sz tz a b ca cb e e' h1 h2 hne
    rcases getElem?_snoc _ _ _ _ e with e | ⟨_, e⟩
    · rcases getElem?_snoc _ _ _ _ e' with e' | ⟨_, e'⟩
      · exact hi.apart i j n k sz tz a b ca cb e e' h1 h2 hne
      · cases e'
    · cases e
  · intro i d e
    simp only at e
    split at e
    · rename_i e0; subst e0; simp
    · have := hi.mu i d e; simp; omega
  · intro i n r e
    have := hi.rho i n r e; simp; omega
  · intro i n k sz r e h1
    rcases getElem?_snoc _ _ _ _ e with e | ⟨_, e⟩
    · exact hi.cur i n k sz r e h1
    · cases e
  · intro d hd
    rcases hd with ⟨i, ds, e, h1⟩ | ⟨i, n, sz, a, cap, e, h1, h2⟩
    · rcases getElem?_snoc _ _ _ _ e with e | ⟨rfl, _⟩
      · have hil := (List.getElem?_eq_some_iff.1 e).1
        simp only [if_neg (Nat.ne_of_lt hil)] at h1
        exact .inl (.inl ⟨i, ds, e, h1⟩)
      · simp at h1; subst h1; exact .inr hc
    · rcases getElem?_snoc _ _ _ _ e with e | ⟨_, e⟩
      · exact .inl (.inr ⟨i, n, sz, a, cap, e, h1, h2⟩)
      · cases e

/-- A new right to append. -/
theorem Step.tok {B : Nat} {m : M} {h : Heap} {w : World} (hi : Inv m h w) (n sz : Nat) (a : Addr) (cap : Nat) (hs : Spare m h w n sz a cap) (hB : B ≤ a.block)
    (hT : ¬ Touch m h a.block) : Step B m h w ⟨m.F, m.mu, fun i k => if i = h.length then (if k = n then some (a, cap) else none) else m.rho i k⟩ (h ++ [.own n sz]) w := by
  have hle : m.le ⟨m.F, m.mu, fun i k => if i = h.length then (if k = n then some (a, cap) else none) else m.rho i k⟩ :=
    ⟨fun _ _ e => e, fun _ _ e => e, fun i k r e => by have := hi.rho i k r e; simp only [if_neg (Nat.ne_of_lt this)]; exact e⟩
  refine ⟨hle, ⟨hi.f, hi.fone, ?_, ?_, ?_, ?_, ?_, ?_, ?_⟩, Nat.le_refl _, rfl, rfl, rfl, fun _ _ _ => rfl, ?_, fun _ _ e => .inl e⟩
  · intro i ds e
    rcases getElem?_snoc _ _ _ _ e with e | ⟨_, e⟩
    · obtain ⟨d, dvs, u, h1, h2, h3, h4⟩ := hi.var i ds e
      exact ⟨d, dvs, u, h1, h2, VRelL.mono hle _ _ h3, h4⟩
    · cases e
  · intro i j ds es d e e' h1 h2
    rcases getElem?_snoc _ _ _ _ e with e | ⟨_, e⟩
    · rcases getElem?_snoc _ _ _ _ e' with e' | ⟨_, e'⟩
      · exact hi.inj i j ds es d e e' h1 h2
      · cases e'
    · cases e
  · intro i k tz e
    rcases getElem?_snoc _ _ _ _ e with e | ⟨rfl, q⟩
    · obtain ⟨b, cb, h1, h2⟩ := hi.own i k tz e
      refine ⟨b, cb, hle.rho _ _ _ h1, h2.spot, h2.le, h2.cell, h2.lt, fun j ds e' => ?_⟩
      rcases getElem?_snoc _ _ _ _ e' with e' | ⟨_, e'⟩
      · exact h2.var j ds e'
      · cases e'
    · cases q
      refine ⟨a, cap, by simp, hs.spot, hs.le, hs.cell, hs.lt, fun j ds e' => ?_⟩
      rcases getElem?_snoc _ _ _ _ e' with e' | ⟨_, e'⟩
      · exact hs.var j ds e'
      · cases e'
  · intro i j k l uz tz b d cb cd e e' h1 h2 hne
    rcases getElem?_snoc _ _ _ _ e with e | ⟨rfl, q⟩ <;> rcases getElem?_snoc _ _ _ _ e' with e' | ⟨rfl, q'⟩
    · have hil := (List.getElem?_eq_some_iff.1 e).1
      have hjl := (List.getElem?_eq_some_iff.1 e').1
      simp only [if_neg (Nat.ne_of_lt hil), if_neg (Nat.ne_of_lt hjl)] at h1 h2
      exact hi.apart i j k l uz tz b d cb cd e e' h1 h2 hne
    · have hil := (List.getElem?_eq_some_iff.1 e).1
      simp only [if_neg (Nat.ne_of_lt hil)] at h1
      cases q'
      simp at h2
      obtain ⟨rfl, _⟩ := h2
      intro e0
      exact hT (.inr ⟨i, k, uz, b, cb, e, h1, e0⟩)
    · have hjl := (List.getElem?_eq_some_iff.1 e').1
      simp only [if_neg (Nat.ne_of_lt hjl)] at h2
      cases q
      simp at h1
      obtain ⟨rfl, _⟩ := h1
      intro e0
      exact hT (.inr ⟨j, l, tz, d, cd, e', h2, e0.symm⟩)
    · exact (hne rfl).elim
  · intro i d e
    have := hi.mu i d e; simp; omega
  · intro i k r e
    simp only at e
    split at e
    · rename_i e0; subst e0; simp
    · have := hi.rho i k r e; simp; omega
  · intro i k l tz r e h1
    rcases getElem?_snoc _ _ _ _ e with e | ⟨rfl, q⟩
    · have hil := (List.getElem?_eq_some_iff.1 e).1
      simp only [if_neg (Nat.ne_of_lt hil)] at h1
      exact hi.cur i k l tz r e h1
    · cases q
      simp at h1
      omega
  · intro d hd
    rcases hd with ⟨i, ds, e, h1⟩ | ⟨i, k, tz, b, cb, e, h1, h2⟩
    · rcases getElem?_snoc _ _ _ _ e with e | ⟨_, e⟩
      · exact .inl (.inl ⟨i, ds, e, h1⟩)
      · cases e
    · rcases getElem?_snoc _ _ _ _ e with e | ⟨rfl, q⟩
      · have hil := (List.getElem?_eq_some_iff.1 e).1
        simp only [if_neg (Nat.ne_of_lt hil)] at h1
        exact .inl (.inr ⟨i, k, tz, b, cb, e, h1, h2⟩)
      · cases q
        simp at h1
        obtain ⟨rfl, _⟩ := h1
        subst h2
        exact .inr hB

theorem getElem?_set_some {α : Type} {l : List α} {i j : Nat} {x y : α} (h : (l.set i x)[j]? = some y) : (j = i ∧ y = x) ∨ (j ≠ i ∧ l[j]? = some y) := by
  by_cases e : i = j
  · subst e
    rw [List.getElem?_set_self'] at h
    cases hl : l[i]? with
    | none => simp [hl] at h
    | some z => simp [hl] at h; exact .inl ⟨rfl, h.symm⟩
  · rw [List.getElem?_set_ne e] at h; exact .inr ⟨fun h => e h.symm, h⟩

/-- A right to append goes on, to a longer list. -/
theorem Step.retok {B : Nat} {m : M} {h : Heap} {w : World} (hi : Inv m h w) (τ n sz n' : Nat) (ht : h[τ]? = some (.own n sz)) (hn : n < n') (a : Addr) (cap : Nat)
    (hs : Spare m h w n' sz a cap) (hB : B ≤ a.block ∨ ∃ b cb, m.rho τ n = some (b, cb) ∧ b.block = a.block)
    (hT : ∀ i k tz b cb, i ≠ τ → h[i]? = some (.own k tz) → m.rho i k = some (b, cb) → b.block ≠ a.block) :
    Step B m h w ⟨m.F, m.mu, fun i k => if i = τ ∧ k = n' then some (a, cap) else m.rho i k⟩ (h.set τ (.own n' sz)) w := by
  have hτ := (List.getElem?_eq_some_iff.1 ht).1
  have hle : m.le ⟨m.F, m.mu, fun i k => if i = τ ∧ k = n' then some (a, cap) else m.rho i k⟩ :=
    ⟨fun _ _ e => e, fun _ _ e => e, fun i k r e => by
      have h0 : ¬ (i = τ ∧ k = n') := by rintro ⟨rfl, rfl⟩; have := hi.cur _ _ _ _ _ ht e; omega
      simp only [if_neg h0]; exact e⟩
  refine ⟨hle, ⟨hi.f, hi.fone, ?_, ?_, ?_, ?_, ?_, ?_, ?_⟩, Nat.le_refl _, rfl, rfl, rfl, fun _ _ _ => rfl, ?_, fun _ _ e => .inl e⟩
  · intro i ds e
    rcases getElem?_set_some e with ⟨_, e⟩ | ⟨_, e⟩
    · cases e
    · obtain ⟨d, dvs, u, h1, h2, h3, h4⟩ := hi.var i ds e
      exact ⟨d, dvs, u, h1, h2, VRelL.mono hle _ _ h3, h4⟩
  · intro i j ds es d e e' h1 h2
    rcases getElem?_set_some e with ⟨_, e⟩ | ⟨_, e⟩
    · cases e
    · rcases getElem?_set_some e' with ⟨_, e'⟩ | ⟨_, e'⟩
      · cases e'
      · exact hi.inj i j ds es d e e' h1 h2
  · intro i k tz e
    rcases getElem?_set_some e with ⟨rfl, q⟩ | ⟨hne, e⟩
    · cases q
      refine ⟨a, cap, by simp, hs.spot, hs.le, hs.cell, hs.lt, fun j ds e' => ?_⟩
      rcases getElem?_set_some e' with ⟨_, e'⟩ | ⟨_, e'⟩
      · cases e'
      · exact hs.var j ds e'
    · obtain ⟨b, cb, h1, h2⟩ := hi.own i k tz e
      refine ⟨b, cb, hle.rho _ _ _ h1, h2.spot, h2.le, h2.cell, h2.lt, fun j ds e' => ?_⟩
      rcases getElem?_set_some e' with ⟨_, e'⟩ | ⟨_, e'⟩
      · cases e'
      · exact h2.var j ds e'
  · intro i j k l uz tz b d cb cd e e' h1 h2 hne
    rcases getElem?_set_some e with ⟨rfl, q⟩ | ⟨hi0, g⟩ <;> rcases getElem?_set_some e' with ⟨rfl, q'⟩ | ⟨hj0, g'⟩
    · exact (hne rfl).elim
    · cases q
      simp at h1
      obtain ⟨rfl, _⟩ := h1
      simp only [hj0, false_and, if_false] at h2
      exact fun e0 => hT j l tz d cd hj0 g' h2 e0.symm
    · cases q'
      simp at h2
      obtain ⟨rfl, _⟩ := h2
      simp only [hi0, false_and, if_false] at h1
      exact fun e0 => hT i k uz b cb hi0 g h1 e0
    · simp only [hi0, hj0, false_and, if_false] at h1 h2
      exact hi.apart i j k l uz tz b d cb cd g g' h1 h2 hne
  · intro i d e
    have := hi.mu i d e; simpa using this
  · intro i k r e
    simp only at e
    split at e
    · rename_i e0; obtain ⟨rfl, _⟩ := e0; simpa using hτ
    · have := hi.rho i k r e; simpa using this
  · intro i k l tz r e h1
    rcases getElem?_set_some e with ⟨rfl, q⟩ | ⟨hi0, e⟩
    · cases q
      simp only at h1
      split at h1
      · rename_i e0; omega
      · have := hi.cur _ _ _ _ _ ht h1; omega
    · simp only [hi0, false_and, if_false] at h1
      exact hi.cur i k l tz r e h1
  · intro d hd
    rcases hd with ⟨i, ds, e, h1⟩ | ⟨i, k, tz, b, cb, e, h1, h2⟩
    · rcases getElem?_set_some e with ⟨_, e⟩ | ⟨_, e⟩
      · cases e
      · exact .inl (.inl ⟨i, ds, e, h1⟩)
    · rcases getElem?_set_some e with ⟨rfl, q⟩ | ⟨hi0, e⟩
      · cases q
        simp at h1
        obtain ⟨rfl, _⟩ := h1
        rcases hB with hB | ⟨b', cb', h3, h4⟩
        · subst h2; exact .inr hB
        · exact .inl (.inr ⟨i, n, sz, b', cb', ht, h3, h4.trans h2⟩)
      · simp only [hi0, false_and, if_false] at h1
        exact .inl (.inr ⟨i, k, tz, b, cb, e, h1, h2⟩)

/-- More cells are known never to change: they lie in no variable and in no spare part. -/
theorem Step.fro {B : Nat} {m : M} {h : Heap} {w : World} (hi : Inv m h w) (G : Addr → Option Value) (hG : ∀ a v, G a = some v → w.cell? a = some v) (hG1 : ∀ a v, G a = some v → v.oneCell' = true)
    (hv : ∀ a v, G a = some v → ∀ k cs, h[k]? = some (.cells cs) → m.mu k ≠ some a.block)
    (hs : ∀ i n sz a cap, h[i]? = some (.own n sz) → m.rho i n = some (a, cap) → ∀ j, n * sz ≤ j → j < cap * sz → G ⟨a.block, a.off + j, none⟩ = none)
    (hB : ∀ a v, G a = some v → B ≤ a.block ∨ Touch m h a.block) :
    Step B m h w ⟨fun a => match m.F a with | some v => some v | none => G a, m.mu, m.rho⟩ h w := by
  have hle : m.le ⟨fun a => match m.F a with | some v => some v | none => G a, m.mu, m.rho⟩ :=
    ⟨fun a v e => by simp only [e], fun _ _ e => e, fun _ _ _ e => e⟩
  have split : ∀ a v, (match m.F a with | some v => some v | none => G a) = some v → m.F a = some v ∨ G a = some v := by
    intro a v e
    cases hF : m.F a with
    | some u => simp only [hF] at e; exact .inl e
    | none => simp only [hF] at e; exact .inr e
  refine ⟨hle, ⟨?_, ?_, ?_, hi.inj, ?_, hi.apart, hi.mu, hi.rho, hi.cur⟩, Nat.le_refl _, rfl, rfl, rfl, fun _ _ _ => rfl, fun _ e => .inl e, ?_⟩
  · intro a v e
    rcases split a v e with e | e
    · exact hi.f a v e
    · exact hG a v e
  · intro a v e
    rcases split a v e with e | e
    · exact hi.fone a v e
    · exact hG1 a v e
  · intro i ds e
    obtain ⟨d, dvs, u, h1, h2, h3, h4⟩ := hi.var i ds e
    refine ⟨d, dvs, u, h1, h2, VRelL.mono hle _ _ h3, fun a ha => ?_, h4.2⟩
    simp only [h4.1 a ha]
    cases hg : G a with
    | none => rfl
    | some v => exact (hv a v hg i ds e (ha ▸ h1)).elim
  · intro i n sz e
    obtain ⟨a, cap, h1, h2⟩ := hi.own i n sz e
    refine ⟨a, cap, h1, h2.spot, h2.le, fun j k1 k2 => ?_, h2.lt, h2.var⟩
    obtain ⟨c1, c2, c3⟩ := h2.cell j k1 k2
    exact ⟨c1, c2, by simp only [c3]; exact hs i n sz a cap e h1 j k1 k2⟩
  · intro a v e
    rcases split a v e with e | e
    · exact .inl e
    · exact .inr ((hB a v e).symm)

end Go.Proofs.Ytnifldbmflkmpaa.Ev
