/-
  Conversions between texts and octets; slice literals, variables, stores, append, make: with the heap.
-/
import Derived.Test.YtnifldbmflkmpaaEvH
import Derived.Laws.BytesArg
import Derived.Laws.IdiomStrings
import Derived.Laws.MakeOwn
namespace Go.Proofs.Ytnifldbmflkmpaa.Ev
open Go
set_option linter.unusedVariables false
set_option linter.unusedSimpArgs false

theorem size_alloc' (w : World) (o : Obj) : (w.alloc o).heap.size = w.heap.size + 1 := by simp

/-- What a new list's spare part needs: no touch of what is there. -/
theorem Step.newList {m : M} {h : Heap} {w : World} (hi : Inv m h w) (arr : Array Value) (t : TypeId) (fr : Nat × Nat) (n sz cap : Nat) (hn : n ≤ cap) (hs : arr.size = cap * sz)
    (hfr : ∀ j, j < cap * sz → ¬ (fr.1 ≤ j ∧ j < fr.2)) (ho : ∀ v ∈ arr.toList.take (n * sz), v.oneCell' = true) :
    ∃ m', Step w.heap.size m h w m' (h ++ [.own n sz]) (w.alloc (.cells arr t fr)) ∧ CellsF m'.F ⟨w.heap.size, 0, none⟩ (arr.toList.take (n * sz)) ∧ m'.rho h.length n = some (⟨w.heap.size, 0, none⟩, cap) := by
  obtain ⟨m1, s1, hc, hmu, hrho, hnone⟩ := Step.newRow hi arr t fr (n * sz) ho
  have hrow : (w.alloc (.cells arr t fr)).heap[w.heap.size]? = some (.cells arr t fr) := heap_alloc_new w _
  have hT : ¬ Touch m1 h w.heap.size := by
    intro ht
    rcases ht with ⟨i, cs, e, h1⟩ | ⟨i, k, tz, a, ca, e, h1, h2⟩
    · rw [hmu] at h1
      have := Touch.lt hi (.inl ⟨i, cs, e, h1⟩); omega
    · rw [hrho] at h1
      have := Touch.lt hi (.inr ⟨i, k, tz, a, ca, e, h1, rfl⟩); omega
  have s2 := Step.tok (B := w.heap.size) s1.inv n sz ⟨w.heap.size, 0, none⟩ cap
    ⟨rfl, hn, fun j h1 h2 => ⟨⟨arr[j]'(by omega), by simp only [Nat.zero_add]; rw [cell_row hrow]; exact getElem?_pos arr j (by omega)⟩, by
        simp only [Nat.zero_add]
        unfold World.frozen?
        rw [hrow]
        have := hfr j h2
        cases hd : (decide (fr.1 ≤ j) && decide (j < fr.2)) with
        | false => exact hd
        | true => simp at hd; exact (this hd).elim, by
        simp only [Nat.zero_add]; exact hnone j h1⟩, by simp, fun k cs e e1 => hT (.inl ⟨k, cs, e, e1⟩)⟩
    (Nat.le_refl _) hT
  exact ⟨_, s1.trans s2, hc, by simp⟩

/-- The same for a list that moves to a new row. -/
theorem Step.moveList {m : M} {h : Heap} {w : World} (hi : Inv m h w) (arr : Array Value) (t : TypeId) (fr : Nat × Nat) (n sz cap : Nat) (hn : n ≤ cap) (hs : arr.size = cap * sz)
    (hfr : ∀ j, j < cap * sz → ¬ (fr.1 ≤ j ∧ j < fr.2)) (ho : ∀ v ∈ arr.toList.take (n * sz), v.oneCell' = true) (τ k : Nat) (hτ : h[τ]? = some (.own k sz)) (hk : k < n) :
    ∃ m', Step w.heap.size m h w m' (h.set τ (.own n sz)) (w.alloc (.cells arr t fr)) ∧ CellsF m'.F ⟨w.heap.size, 0, none⟩ (arr.toList.take (n * sz)) ∧ m'.rho τ n = some (⟨w.heap.size, 0, none⟩, cap) := by
  obtain ⟨m1, s1, hc, hmu, hrho, hnone⟩ := Step.newRow hi arr t fr (n * sz) ho
  have hrow : (w.alloc (.cells arr t fr)).heap[w.heap.size]? = some (.cells arr t fr) := heap_alloc_new w _
  have hT : ¬ Touch m1 h w.heap.size := by
    intro ht
    rcases ht with ⟨i, cs, e, h1⟩ | ⟨i, k, tz, a, ca, e, h1, h2⟩
    · rw [hmu] at h1
      have := Touch.lt hi (.inl ⟨i, cs, e, h1⟩); omega
    · rw [hrho] at h1
      have := Touch.lt hi (.inr ⟨i, k, tz, a, ca, e, h1, rfl⟩); omega
  have s2 := Step.retok (B := w.heap.size) s1.inv τ k sz n hτ hk ⟨w.heap.size, 0, none⟩ cap
    ⟨rfl, hn, fun j h1 h2 => ⟨⟨arr[j]'(by omega), by simp only [Nat.zero_add]; rw [cell_row hrow]; exact getElem?_pos arr j (by omega)⟩, by
        simp only [Nat.zero_add]
        unfold World.frozen?
        rw [hrow]
        have := hfr j h2
        cases hd : (decide (fr.1 ≤ j) && decide (j < fr.2)) with
        | false => exact hd
        | true => simp at hd; exact (this hd).elim, by
        simp only [Nat.zero_add]; exact hnone j h1⟩, by simp, fun k cs e e1 => hT (.inl ⟨k, cs, e, e1⟩)⟩
    (.inl (Nat.le_refl _)) (fun i k tz b cb _ e e1 e2 => hT (.inr ⟨i, k, tz, b, cb, e, e1, e2⟩))
  exact ⟨_, s1.trans s2, hc, by simp⟩

theorem ofBytes_rel {m : M} (s : List UInt8) : VRelL m (ofBytes s) (s.map fun b => Value.int .u8 (b.toNat : Int)) := by
  induction s with
  | nil => exact .nil
  | cons b s ih => exact .cons (by simp only [VRel]) ih

theorem flatMap_one : ∀ (l : List Value), (∀ v ∈ l, VCells v = [v]) → l.flatMap VCells = l
  | [], _ => rfl
  | v :: l, h => by
    rw [List.flatMap_cons, h v (by simp), flatMap_one l (fun u hu => h u (by simp [hu]))]
    rfl

theorem convA_ok {P : Program} {m : M} {h h' : Heap} {w : World} (hi : Inv m h w) {src dst : TypeId} {x z : AV} (he : convA P src dst h x = some (z, h')) {u : Value} (hx : VRel m x u) :
    ∃ r w' m', (convert src dst u).run P w = .ok r w' ∧ Step w.heap.size m h w m' h' w' ∧ VRel m' z r := by
  unfold convA at he
  split at he
  · rename_i ds k k0 n hs hd
    simp only [Option.some.injEq, Prod.mk.injEq] at he
    obtain ⟨rfl, rfl⟩ := he
    rw [hx.int']
    exact ⟨.int k (k.wrap n), w, m, by simp [convert, run_underlying hs, run_underlying hd, Conv.intToInt], Step.refl hi, by simp only [VRel]⟩
  · rename_i s hs hd
    simp only [Option.some.injEq, Prod.mk.injEq] at he
    obtain ⟨rfl, rfl⟩ := he
    have hx' := hx
    simp only [VRel] at hx
    obtain ⟨b, rfl, rfl⟩ := hx
    exact ⟨.string b, w, m, by simp [convert, run_underlying hs, run_underlying hd], Step.refl hi, hx'⟩
  · rename_i e s hs hd
    split at he
    · rename_i hu
      simp only [Option.some.injEq, Prod.mk.injEq] at he
      obtain ⟨rfl, rfl⟩ := he
      simp only [VRel] at hx
      obtain ⟨b, rfl, rfl⟩ := hx
      have hrun := run_bytes_of_string (P := P) w src dst e b hs hd hu
      have hge : b.size ≤ grownCap w b.size 0 e := grownCap_ge w b.size 0 e
      have hsz : (bytesRow b (grownCap w b.size 0 e)).size = grownCap w b.size 0 e := by simp [bytesRow]; omega
      have htake : (bytesRow b (grownCap w b.size 0 e)).toList.take b.size = b.data.toList.map fun c => Value.int .u8 (c.toNat : Int) := by
        simp only [bytesRow, Array.toList_append, Array.toList_map]
        rw [List.take_append_of_le_length (by simp)]
        exact List.take_of_length_le (by simp)
      have s0 := Step.same (B := w.heap.size) hi (w' := w.drew) rfl rfl rfl rfl
      obtain ⟨m', s1, hc, hr⟩ := Step.newList s0.inv (bytesRow b (grownCap w b.size 0 e)) e ((bytesRow b (grownCap w b.size 0 e)).size, (bytesRow b (grownCap w b.size 0 e)).size + 1)
        b.size 1 (grownCap w b.size 0 e) hge (by omega) (fun j hj => by simp only; omega) (by
          intro v hv
          rw [Nat.mul_one, htake] at hv
          obtain ⟨c, _, rfl⟩ := List.mem_map.1 hv
          rfl)
      refine ⟨_, _, m', hrun, s0.trans s1, ?_⟩
      simp only [VRel]
      have hlen : (ofBytes b.data.toList).length = b.size := by simp [ofBytes]
      rw [Nat.mul_one, htake] at hc
      refine .inr ⟨⟨w.heap.size, 0, none⟩, grownCap w b.size 0 e, b.data.toList.map fun c => Value.int .u8 (c.toNat : Int), 1, by rw [hlen], fun _ => rfl, by rw [hlen]; exact hge, ofBytes_rel _, ?_, ?_, by simp, ?_⟩
      · intro v hv
        obtain ⟨c, _, rfl⟩ := List.mem_map.1 hv
        rfl
      · rw [flatMap_one _ (fun v hv => by obtain ⟨c, _, rfl⟩ := List.mem_map.1 hv; rfl)]
        exact hc
      · intro τ hτ
        simp only [Option.some.injEq] at hτ
        subst hτ
        rw [hlen]
        exact hr
    · cases he
  · rename_i e hs hd
    split at he
    · rename_i hu
      split at he
      · simp only [Option.some.injEq, Prod.mk.injEq] at he
        obtain ⟨rfl, rfl⟩ := he
        simp only [VRel] at hx
        subst hx
        refine ⟨.string .empty, w, m, ?_, Step.refl hi, by simp only [VRel]; exact ⟨_, rfl, rfl⟩⟩
        rw [run_convert_bytes_string w src dst e _ _ _ hs hu hd]
        simp [Conv.bytesToString]
      · rename_i xs nn cap tok
        cases hq : bytesOf xs with
        | none => simp [hq] at he
        | some s =>
          simp only [hq, Option.map_some, Option.some.injEq, Prod.mk.injEq] at he
          obtain ⟨rfl, rfl⟩ := he
          simp only [VRel] at hx
          rcases hx with ⟨rfl, _, _, _, rfl⟩ | ⟨a, cap', cvs, sz, rfl, g2, g3, g4, g5, g6, g7, g8⟩
          · simp only [bytesOf, Option.some.injEq] at hq
            subst hq
            refine ⟨.string .empty, w, m, ?_, Step.refl hi, by simp only [VRel]; exact ⟨_, rfl, rfl⟩⟩
            rw [run_convert_bytes_string w src dst e _ _ _ hs hu hd]
            simp [Conv.bytesToString]
          · obtain ⟨ns, rfl, rfl⟩ := bytesOf_spec xs s cvs hq g4
            have hl : ns.length = xs.length := by simpa using g4.length
            rw [flatMap_one _ (fun v hv => by obtain ⟨c, _, rfl⟩ := List.mem_map.1 hv; rfl)] at g6
            have hld := run_loadCells_list (P := P) w a (ns.map (Value.int .u8)) (fun j v hv => by rw [Addr.add_none a (g2 (by have := (List.getElem?_eq_some_iff.1 hv).1; simp at this; omega))]; exact hi.f _ _ (g6 j v hv))
            simp only [List.length_map, hl] at hld
            refine ⟨.string ⟨ByteArray.empty.data ++ (ns.map fun n => UInt8.ofNat n.toNat).toArray⟩, w, m, ?_, Step.refl hi, ?_⟩
            · rw [run_convert_bytes_string w src dst e _ _ _ hs hu hd, run_bytesToString w a _ _ ns hld, foldl_push_bytes]
            · simp only [VRel]
              exact ⟨_, rfl, by simp [ByteArray.empty, ByteArray.emptyWithCapacity]; rfl⟩
      · rename_i b o len cap
        split at he
        · rename_i cs hb
          split at he
          · rename_i hle
            cases hq : bytesOf ((cs.drop o).take len) with
            | none => simp [hq] at he
            | some s =>
              simp only [hq, Option.map_some, Option.some.injEq, Prod.mk.injEq] at he
              obtain ⟨rfl, rfl⟩ := he
              simp only [VRel] at hx
              obtain ⟨c, hm, rfl⟩ := hx
              obtain ⟨c', cvs, t', k1, k2, k3, _⟩ := hi.var b cs hb
              rw [hm] at k1
              cases k1
              have hcl := k3.length
              obtain ⟨ns, h1, rfl⟩ := bytesOf_spec _ s _ hq ((k3.drop o).take len)
              have hl : ns.length = len := by
                have := congrArg List.length h1
                simp at this hcl
                omega
              have hld := run_loadCells_list (P := P) w ⟨c, o, none⟩ (ns.map (Value.int .u8)) (fun j v hv => by
                rw [Addr.add_mid, cell_row k2]
                rw [← h1, List.getElem?_take] at hv
                split at hv
                · simpa using hv
                · cases hv)
              simp only [List.length_map, hl] at hld
              refine ⟨.string ⟨ByteArray.empty.data ++ (ns.map fun n => UInt8.ofNat n.toNat).toArray⟩, w, m, ?_, Step.refl hi, ?_⟩
              · rw [run_convert_bytes_string w src dst e _ _ _ hs hu hd, run_bytesToString w _ _ _ ns hld, foldl_push_bytes]
              · simp only [VRel]
                exact ⟨_, rfl, by simp [ByteArray.empty, ByteArray.emptyWithCapacity]; rfl⟩
          · cases he
        · cases he
      · cases he
    · cases he
  · cases he

theorem convA_heap {P : Program} {src dst : TypeId} {h h' : Heap} {x z : AV} (he : convA P src dst h x = some (z, h')) : h' = h ∨ ∃ o, h' = h ++ [o] := by
  unfold convA at he
  repeat' split at he
  all_goals first
    | (cases he; done)
    | (simp only [Option.some.injEq, Prod.mk.injEq] at he; exact .inl he.2.symm)
    | (simp only [Option.some.injEq, Prod.mk.injEq] at he; exact .inr ⟨_, he.2.symm⟩)
    | (rename_i xs _ _ _ _; cases hq : bytesOf xs <;> simp [hq] at he <;> exact .inl he.2.symm)
    | (simp only [Option.map_eq_some_iff] at he; obtain ⟨s, _, he⟩ := he; cases he; exact .inl rfl)

end Go.Proofs.Ytnifldbmflkmpaa.Ev
