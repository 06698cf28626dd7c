/-
  Slice literals, variables, stores, append, make.
-/
import Derived.Test.YtnifldbmflkmpaaEvI
namespace Go.Proofs.Ytnifldbmflkmpaa.Ev
open Go
set_option linter.unusedVariables false
set_option linter.unusedSimpArgs false

theorem VRelL.ones {m : M} : ∀ {cs : List AV} {vs : List Value}, VRelL m cs vs → cs.all AV.one = true → ∀ v ∈ vs, v.oneCell' = true
  | [], vs, h, _, v, hv => by simp only [VRelL] at h; subst h; cases hv
  | x :: cs, vs, h, ho, v, hv => by
    simp only [VRelL] at h
    obtain ⟨u, us, rfl, h1, h2⟩ := h
    simp only [List.all_cons, Bool.and_eq_true] at ho
    rcases List.mem_cons.1 hv with rfl | hv
    · exact (h1.one ho.1).2
    · exact VRelL.ones h2 ho.2 v hv

theorem prel_vals {m : M} : ∀ (parts : List (Nat × AV)) (cparts : List (Nat × Value)) (k : Nat), PRel m parts cparts → parts.map (·.1) = List.range' k parts.length →
    ∃ vals : List Value, cparts = (vals.zipIdx k).map (fun p => (p.2, p.1)) ∧ VRelL m (parts.map (·.2)) vals
  | [], cparts, k, hp, _ => by
    simp only [PRel] at hp; subst hp
    exact ⟨[], rfl, .nil⟩
  | (i, x) :: parts, cparts, k, hp, hk => by
    simp only [PRel] at hp
    obtain ⟨v, vs, rfl, h1, h2⟩ := hp
    simp only [List.map_cons, List.length_cons, List.range'_succ, List.cons.injEq] at hk
    obtain ⟨rfl, hk⟩ := hk
    obtain ⟨vals, rfl, h3⟩ := prel_vals parts vs _ h2 hk
    exact ⟨v :: vals, by simp, .cons h1 h3⟩

theorem splice_splice {α : Type} (cs : List α) (o : Nat) (xs ys : List α) (h : o + xs.length + ys.length ≤ cs.length) : splice (splice cs o xs) (o + xs.length) ys = splice cs o (xs ++ ys) := by
  apply List.ext_getElem?
  intro j
  rw [splice_get _ _ _ (by rw [splice_length _ _ _ (by omega)]; omega), splice_get _ _ _ (by omega), splice_get _ _ _ (by simp; omega)]
  by_cases e1 : j < o
  · rw [if_pos (by omega), if_pos e1, if_pos e1]
  · rw [if_neg e1, if_neg e1]
    by_cases e2 : j < o + xs.length
    · rw [if_pos e2, if_pos e2, if_pos (by simp; omega), List.getElem?_append_left (by omega)]
    · rw [if_neg e2]
      by_cases e3 : j < o + xs.length + ys.length
      · rw [if_pos e3, if_pos (by simp; omega), List.getElem?_append_right (by omega)]
        congr 1; omega
      · rw [if_neg e3, if_neg e2, if_neg (by simp; omega)]

theorem fill_dense (n : Nat) : ∀ (vals : List Value) (k : Nat) (cells : Array Value), (∀ v ∈ vals, (VCells v).length = n) → (k + vals.length) * n ≤ cells.size →
    ∃ out, Instr.fill (fun i => some (i * n, n)) cells ((vals.zipIdx k).map fun p => (p.2, p.1)) = some out ∧ out.toList = splice cells.toList (k * n) (vals.flatMap VCells)
  | [], k, cells, _, _ => ⟨cells, by simp [Instr.fill], by simp [splice]⟩
  | v :: vals, k, cells, hs, hl => by
    have h1 := hs v (by simp)
    have h1' : v.cells.size = n := h1
    have hk : (k + 1) * n + vals.length * n ≤ cells.size := by
      simp only [List.length_cons] at hl
      have e : (k + (vals.length + 1)) * n = (k + 1) * n + vals.length * n := by rw [← Nat.add_mul]; congr 1; omega
      omega
    have hkn : (k + 1) * n = k * n + n := by rw [Nat.add_mul]; omega
    have hsp : (v.cells.zipIdx.foldl (fun cs (p : Value × Nat) => cs.setIfInBounds (k * n + p.2) p.1) cells).toList = splice cells.toList (k * n) (VCells v) := by
      rw [← Array.foldl_toList, Array.toList_zipIdx]
      have := foldl_splice v.cells.toList 0 (k * n) cells (by simp; omega)
      simp only [Nat.add_zero] at this
      exact this
    have hsz : (v.cells.zipIdx.foldl (fun cs (p : Value × Nat) => cs.setIfInBounds (k * n + p.2) p.1) cells).size = cells.size := by
      have := congrArg List.length hsp
      rw [splice_length _ _ _ (by rw [h1]; simp; omega)] at this
      simpa using this
    obtain ⟨out, k1, k2⟩ := fill_dense n vals (k + 1) _ (fun u hu => hs u (by simp [hu])) (by rw [hsz, Nat.add_mul]; exact hk)
    refine ⟨out, ?_, ?_⟩
    · simp only [List.zipIdx_cons, List.map_cons, Instr.fill]
      rw [if_neg (by simp; omega)]
      exact k1
    · rw [k2, hsp, List.flatMap_cons, hkn]
      have e2 : k * n + n = k * n + (VCells v).length := by omega
      rw [e2]
      have hfl := flatMap_length vals (fun u hu => hs u (by simp [hu]))
      exact splice_splice _ _ _ _ (by rw [h1, hfl]; simp; omega)

theorem buildSliceA_ok {P : Program} {m : M} {h : Heap} {w : World} (hi : Inv m h w) {t : TypeId} {len : Nat} {parts : List (Nat × AV)} {z : AV} (he : buildSliceA P t len parts = some z)
    {cparts : Array (Nat × Value)} (hp : PRel m parts cparts.toList) :
    ∃ r w' m', (Instr.buildSlice t len cparts).run P w = .ok r w' ∧ Step w.heap.size m h w m' h w' ∧ VRel m' z r := by
  unfold buildSliceA at he
  split at he
  · rename_i e hu
    split at he
    · rename_i n z0 hs hz
      split at he
      · rename_i hc
        simp only [Bool.and_eq_true, decide_eq_true_eq, beq_iff_eq, List.all_eq_true] at hc
        obtain ⟨⟨c1, c2⟩, c3⟩ := hc
        simp only [Option.some.injEq] at he
        subst he
        obtain ⟨i, zv, g1, g2, g3⟩ := tyZero_spec hz
        have hlen : parts.length = len := by have := congrArg List.length c2; simpa using this
        obtain ⟨vals, hv1, hv2⟩ := prel_vals parts cparts.toList 0 hp (by rw [hlen, ← List.range_eq_range']; exact c2)
        have hvl : vals.length = len := by have := hv2.length; simpa [hlen] using this
        have hvs : ∀ v ∈ vals, (VCells v).length = n := by
          intro v hv
          obtain ⟨x, hx, hr⟩ := hv2.forall_mem v hv
          rw [VCells_length hr]
          obtain ⟨p, hp', rfl⟩ := List.mem_map.1 hx
          exact (c3 p hp').1
        have hones : ∀ u ∈ vals.flatMap VCells, u.oneCell' = true := by
          intro u hu'
          obtain ⟨v, hv, huv⟩ := List.mem_flatMap.1 hu'
          obtain ⟨x, hx, hr⟩ := hv2.forall_mem v hv
          obtain ⟨p, hp', rfl⟩ := List.mem_map.1 hx
          exact hr.cells.ones (by simpa [List.all_eq_true] using (c3 p hp').2) u huv
        have hfl := flatMap_length vals hvs
        have key : ∀ zz : Array Value, ∃ out : Array Value, Instr.fill (fun i => some (i * n, n)) ((Array.range (len * n)).map (zz[· % zz.size]!)) cparts.toList = some out ∧ out.toList = vals.flatMap VCells := by
          intro zz
          obtain ⟨out, k1, k2⟩ := fill_dense n vals 0 ((Array.range (len * n)).map (zz[· % zz.size]!)) hvs (by simp [hvl])
          refine ⟨out, by rw [hv1]; exact k1, ?_⟩
          rw [k2]
          unfold splice
          simp only [Nat.zero_mul, List.take_zero, List.nil_append, Nat.zero_add]
          rw [List.drop_eq_nil_of_le (by simp [hfl, hvl])]
          simp
        have c1' : ¬ (16777216 < len * n) := by omega
        obtain ⟨ii, q1, q2⟩ := tySize_spec hs
        obtain ⟨out, hrun, hout⟩ : ∃ out : Array Value, (Instr.buildSlice t len cparts).run P w = .ok (.slice (some ⟨w.heap.size, 0, none⟩) len len) (w.alloc (.cells out e)) ∧ out.toList = vals.flatMap VCells := by
          by_cases h0 : len * n = 0
          · obtain ⟨out, k1, k2⟩ := key #[]
            refine ⟨out, ?_, k2⟩
            simp only [h0] at k1
            simp [Instr.buildSlice, run_underlying hu, run_sizeOf' hs, c1', h0]
            simp only [Array.range_zero', Array.map_empty] at k1
            simp [Array.range_zero', k1, newRow]
          · obtain ⟨out, k1, k2⟩ := key zv.cells
            refine ⟨out, ?_, k2⟩
            simp [Instr.buildSlice, run_underlying hu, run_sizeOf' hs, c1', h0, run_zeroValue' g1 g2, k1, newRow]
        obtain ⟨m', s1, hcell, hmu, hrho, _⟩ := Step.newRow hi out e (0, 0) (vals.flatMap VCells).length (by rw [hout, List.take_length]; exact hones)
        refine ⟨_, _, m', hrun, s1, ?_⟩
        rw [hout, List.take_length] at hcell
        simp only [VRel]
        have hl2 : (parts.map (·.2)).length = len := by simp [hlen]
        exact .inr ⟨⟨w.heap.size, 0, none⟩, len, vals, n, by rw [hl2], fun _ => rfl, by rw [hl2]; exact Nat.le_refl _, VRelL.mono s1.le _ _ hv2, hvs, hcell, by simp, by simp⟩
      · cases he
    · cases he
  · cases he

theorem newVar_ok {m : M} {h : Heap} {w : World} (hi : Inv m h w) {x : AV} {v : Value} (hx : VRel m x v) (ho : x.cells.all AV.one = true) (t : TypeId) (P : Program) :
    ∃ m', (newVar t v).run P w = .ok ⟨w.heap.size, 0, none⟩ (w.alloc (.cells v.cells t)) ∧ Step w.heap.size m h w m' (h ++ [.cells x.cells]) (w.alloc (.cells v.cells t)) ∧
      VRel m' (.ptr h.length 0) (.pointer (some ⟨w.heap.size, 0, none⟩)) := by
  obtain ⟨m', s, hmu⟩ := Step.newVar hi v.cells t x.cells hx.cells (hx.cells.ones ho)
  refine ⟨m', by simp [newVar, newRow], s, ?_⟩
  simp only [VRel]
  exact ⟨_, hmu, rfl⟩

theorem storeA_ok {P : Program} {m : M} {h h' : Heap} {w : World} (hi : Inv m h w) {t : TypeId} {x y : AV} {b : Nat} (he : storeA P t h x y = some (h', b)) {u v : Value} (hx : VRel m x u) (hy : VRel m y v) :
    ∃ w', (Instr.storeAt t u v).run P w = .ok () w' ∧ Step w.heap.size m h w m h' w' ∧ h' = h.set b (h'.getD b default) := by
  unfold storeA at he
  split at he
  · rename_i bb o
    split at he
    · rename_i cs hb
      split at he
      · rename_i hc
        simp only [Bool.and_eq_true, decide_eq_true_eq, beq_iff_eq] at hc
        obtain ⟨⟨c1, c2⟩, c3⟩ := hc
        simp only [Option.some.injEq, Prod.mk.injEq] at he
        obtain ⟨rfl, rfl⟩ := he
        simp only [VRel] at hx
        obtain ⟨c, hm, rfl⟩ := hx
        obtain ⟨c', cvs, tt, k1, k2, k3, k4, k5⟩ := hi.var bb cs hb
        rw [hm] at k1
        cases k1
        have hyl := VCells_length hy
        have hcl := k3.length
        have hones := hy.cells.ones c3
        have s := Step.set (B := w.heap.size) hi hb hm o y.cells (VCells v) hy.cells hones c2
        refine ⟨_, ?_, s, ?_⟩
        · have hst := run_storeCells_cells (P := P) c o (VCells v) 0 w (fun j hj => by
              rw [Nat.add_zero, cell_row k2]
              have : o + j < cvs.size := by simp at hcl; omega
              simp [this]) (fun j hj => by unfold World.frozen?; rw [Nat.add_zero, k2]; simp) hones
          simp only [Nat.add_zero] at hst
          have hsz : v.cells.size = y.cells.length := hyl
          have h2 := run_sizeOf' (P := P) c1 w
          simp only [Instr.storeAt, Instr.sureAddr, Sem.run_bind, Sem.run_pure, Result.andThen_ok, storeVar, h2]
          rw [if_neg (by omega)]
          exact hst
        · have hbl := (List.getElem?_eq_some_iff.1 hb).1
          apply List.ext_getElem?
          intro i
          by_cases e : bb = i
          · subst e
            rw [List.getElem?_set_self (by simpa using hbl), List.getElem?_set_self (by simpa using hbl)]
            simp [List.getD, hbl]
          · rw [List.getElem?_set_ne e, List.getElem?_set_ne e]
      · cases he
    · cases he
  · cases he

end Go.Proofs.Ytnifldbmflkmpaa.Ev
