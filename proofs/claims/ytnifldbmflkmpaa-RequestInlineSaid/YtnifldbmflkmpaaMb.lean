/-
  Parts, one behind the other: EvJ, EvK, EvL, EvM, EvN, EvO, EvP.
-/
import Derived.LoopN
import Derived.Handed
import Derived.Below
import Derived.Carry
import Derived.ChangeSame
import Derived.Deep.Slices
import Derived.WideKeyArgs
import Derived.JoinedOf
import Derived.Test.YtnifldbmflkmpaaMa
/-
  Slice literals, variables, stores, append, make.
-/
namespace Go.Proofs.Ytnifldbmflkmpaa.Ev
open Go
set_option linter.unusedVariables false
set_option linter.unusedSimpArgs false

theorem VRelL.ones {m : M} : ∀ {cs : List AV} {vs : List Value}, VRelL m cs vs → cs.all AV.one = true → ∀ v ∈ vs, v.oneCell' = true
  | [], vs, h, _, v, hv => by simp only [VRelL] at h; subst h; cases hv
  | x :: cs, vs, h, ho, v, hv => by
    simp only [VRelL] at h
    obtain ⟨u, us, rfl, h1, h2⟩ := h
    simp only [List.all_cons, Bool.and_eq_true] at ho
    rcases List.mem_cons.1 hv with rfl | hv
    · exact (h1.one ho.1).2
    · exact VRelL.ones h2 ho.2 v hv

theorem prel_vals {m : M} : ∀ (parts : List (Nat × AV)) (cparts : List (Nat × Value)) (k : Nat), PRel m parts cparts → parts.map (·.1) = List.range' k parts.length →
    ∃ vals : List Value, cparts = (vals.zipIdx k).map (fun p => (p.2, p.1)) ∧ VRelL m (parts.map (·.2)) vals
  | [], cparts, k, hp, _ => by
    simp only [PRel] at hp; subst hp
    exact ⟨[], rfl, .nil⟩
  | (i, x) :: parts, cparts, k, hp, hk => by
    simp only [PRel] at hp
    obtain ⟨v, vs, rfl, h1, h2⟩ := hp
    simp only [List.map_cons, List.length_cons, List.range'_succ, List.cons.injEq] at hk
    obtain ⟨rfl, hk⟩ := hk
    obtain ⟨vals, rfl, h3⟩ := prel_vals parts vs _ h2 hk
    exact ⟨v :: vals, by simp, .cons h1 h3⟩

theorem splice_splice {α : Type} (cs : List α) (o : Nat) (xs ys : List α) (h : o + xs.length + ys.length ≤ cs.length) : splice (splice cs o xs) (o + xs.length) ys = splice cs o (xs ++ ys) := by
  apply List.ext_getElem?
  intro j
  rw [splice_get _ _ _ (by rw [splice_length _ _ _ (by omega)]; omega), splice_get _ _ _ (by omega), splice_get _ _ _ (by simp; omega)]
  by_cases e1 : j < o
  · rw [if_pos (by omega), if_pos e1, if_pos e1]
  · rw [if_neg e1, if_neg e1]
    by_cases e2 : j < o + xs.length
    · rw [if_pos e2, if_pos e2, if_pos (by simp; omega), List.getElem?_append_left (by omega)]
    · rw [if_neg e2]
      by_cases e3 : j < o + xs.length + ys.length
      · rw [if_pos e3, if_pos (by simp; omega), List.getElem?_append_right (by omega)]
        congr 1; omega
      · rw [if_neg e3, if_neg e2, if_neg (by simp; omega)]

theorem fill_dense (n : Nat) : ∀ (vals : List Value) (k : Nat) (cells : Array Value), (∀ v ∈ vals, (VCells v).length = n) → (k + vals.length) * n ≤ cells.size →
    ∃ out, Instr.fill (fun i => some (i * n, n)) cells ((vals.zipIdx k).map fun p => (p.2, p.1)) = some out ∧ out.toList = splice cells.toList (k * n) (vals.flatMap VCells)
  | [], k, cells, _, _ => ⟨cells, by simp [Instr.fill], by simp [splice]⟩
  | v :: vals, k, cells, hs, hl => by
    have h1 := hs v (by simp)
    have h1' : v.cells.size = n := h1
    have hk : (k + 1) * n + vals.length * n ≤ cells.size := by
      simp only [List.length_cons] at hl
      have e : (k + (vals.length + 1)) * n = (k + 1) * n + vals.length * n := by rw [← Nat.add_mul]; congr 1; omega
      omega
    have hkn : (k + 1) * n = k * n + n := by rw [Nat.add_mul]; omega
    have hsp : (v.cells.zipIdx.foldl (fun cs (p : Value × Nat) => cs.setIfInBounds (k * n + p.2) p.1) cells).toList = splice cells.toList (k * n) (VCells v) := by
      rw [← Array.foldl_toList, Array.toList_zipIdx]
      have := foldl_splice v.cells.toList 0 (k * n) cells (by simp; omega)
      simp only [Nat.add_zero] at this
      exact this
    have hsz : (v.cells.zipIdx.foldl (fun cs (p : Value × Nat) => cs.setIfInBounds (k * n + p.2) p.1) cells).size = cells.size := by
      have := congrArg List.length hsp
      rw [splice_length _ _ _ (by rw [h1]; simp; omega)] at this
      simpa using this
    obtain ⟨out, k1, k2⟩ := fill_dense n vals (k + 1) _ (fun u hu => hs u (by simp [hu])) (by rw [hsz, Nat.add_mul]; exact hk)
    refine ⟨out, ?_, ?_⟩
    · simp only [List.zipIdx_cons, List.map_cons, Instr.fill]
      rw [if_neg (by simp; omega)]
      exact k1
    · rw [k2, hsp, List.flatMap_cons, hkn]
      have e2 : k * n + n = k * n + (VCells v).length := by omega
      rw [e2]
      have hfl := flatMap_length vals (fun u hu => hs u (by simp [hu]))
      exact splice_splice _ _ _ _ (by rw [h1, hfl]; simp; omega)

theorem buildSliceA_ok {P : Program} {m : M} {h : Heap} {w : World} (hi : Inv m h w) {t : TypeId} {len : Nat} {parts : List (Nat × AV)} {z : AV} (he : buildSliceA P t len parts = some z)
    {cparts : Array (Nat × Value)} (hp : PRel m parts cparts.toList) :
    ∃ r w' m', (Instr.buildSlice t len cparts).run P w = .ok r w' ∧ Step w.heap.size m h w m' h w' ∧ VRel m' z r := by
  unfold buildSliceA at he
  split at he
  · rename_i e hu
    split at he
    · rename_i n z0 hs hz
      split at he
      · rename_i hc
        simp only [Bool.and_eq_true, decide_eq_true_eq, beq_iff_eq, List.all_eq_true] at hc
        obtain ⟨⟨c1, c2⟩, c3⟩ := hc
        simp only [Option.some.injEq] at he
        subst he
        obtain ⟨i, zv, g1, g2, g3⟩ := tyZero_spec hz
        have hlen : parts.length = len := by have := congrArg List.length c2; simpa using this
        obtain ⟨vals, hv1, hv2⟩ := prel_vals parts cparts.toList 0 hp (by rw [hlen, ← List.range_eq_range']; exact c2)
        have hvl : vals.length = len := by have := hv2.length; simpa [hlen] using this
        have hvs : ∀ v ∈ vals, (VCells v).length = n := by
          intro v hv
          obtain ⟨x, hx, hr⟩ := hv2.forall_mem v hv
          rw [VCells_length hr]
          obtain ⟨p, hp', rfl⟩ := List.mem_map.1 hx
          exact (c3 p hp').1
        have hones : ∀ u ∈ vals.flatMap VCells, u.oneCell' = true := by
          intro u hu'
          obtain ⟨v, hv, huv⟩ := List.mem_flatMap.1 hu'
          obtain ⟨x, hx, hr⟩ := hv2.forall_mem v hv
          obtain ⟨p, hp', rfl⟩ := List.mem_map.1 hx
          exact hr.cells.ones (by simpa [List.all_eq_true] using (c3 p hp').2) u huv
        have hfl := flatMap_length vals hvs
        have key : ∀ zz : Array Value, ∃ out : Array Value, Instr.fill (fun i => some (i * n, n)) ((Array.range (len * n)).map (zz[· % zz.size]!)) cparts.toList = some out ∧ out.toList = vals.flatMap VCells := by
          intro zz
          obtain ⟨out, k1, k2⟩ := fill_dense n vals 0 ((Array.range (len * n)).map (zz[· % zz.size]!)) hvs (by simp [hvl])
          refine ⟨out, by rw [hv1]; exact k1, ?_⟩
          rw [k2]
          unfold splice
          simp only [Nat.zero_mul, List.take_zero, List.nil_append, Nat.zero_add]
          rw [List.drop_eq_nil_of_le (by simp [hfl, hvl])]
          simp
        have c1' : ¬ (16777216 < len * n) := by omega
        obtain ⟨ii, q1, q2⟩ := tySize_spec hs
        obtain ⟨out, hrun, hout⟩ : ∃ out : Array Value, (Instr.buildSlice t len cparts).run P w = .ok (.slice (some ⟨w.heap.size, 0, none⟩) len len) (w.alloc (.cells out e)) ∧ out.toList = vals.flatMap VCells := by
          by_cases h0 : len * n = 0
          · obtain ⟨out, k1, k2⟩ := key #[]
            refine ⟨out, ?_, k2⟩
            simp only [h0] at k1
            simp [Instr.buildSlice, run_underlying hu, run_sizeOf' hs, c1', h0]
            simp only [Array.range_zero', Array.map_empty] at k1
            simp [Array.range_zero', k1, newRow]
          · obtain ⟨out, k1, k2⟩ := key zv.cells
            refine ⟨out, ?_, k2⟩
            simp [Instr.buildSlice, run_underlying hu, run_sizeOf' hs, c1', h0, run_zeroValue' g1 g2, k1, newRow]
        obtain ⟨m', s1, hcell, hmu, hrho, _⟩ := Step.newRow hi out e (0, 0) (vals.flatMap VCells).length (by rw [hout, List.take_length]; exact hones)
        refine ⟨_, _, m', hrun, s1, ?_⟩
        rw [hout, List.take_length] at hcell
        simp only [VRel]
        have hl2 : (parts.map (·.2)).length = len := by simp [hlen]
        exact .inr ⟨⟨w.heap.size, 0, none⟩, len, vals, n, by rw [hl2], fun _ => rfl, by rw [hl2]; exact Nat.le_refl _, VRelL.mono s1.le _ _ hv2, hvs, hcell, by simp, by simp⟩
      · cases he
    · cases he
  · cases he

theorem buildSliceT_ok {P : Program} {m : M} {h : Heap} {w : World} (hi : Inv m h w) {t : TypeId} {len : Nat} {parts : List (Nat × AV)} {z : AV} (hfresh : freshB P t len = true) (he : buildSliceA P t len parts = some z)
    {cparts : Array (Nat × Value)} (hp : PRel m parts cparts.toList) :
    ∃ r w' m', (Instr.buildSlice t len cparts).run P w = .ok r w' ∧ Step w.heap.size m h w m' (h ++ [.own len 1]) w' ∧ VRel m' (tokV h.length z) r := by
  unfold buildSliceA at he
  split at he
  · rename_i e hu
    split at he
    · rename_i n z0 hs hz
      split at he
      · rename_i hc
        simp only [Bool.and_eq_true, decide_eq_true_eq, beq_iff_eq, List.all_eq_true] at hc
        obtain ⟨⟨c1, c2⟩, c3⟩ := hc
        simp only [Option.some.injEq] at he
        subst he
        obtain ⟨i, zv, g1, g2, g3⟩ := tyZero_spec hz
        have hlen : parts.length = len := by have := congrArg List.length c2; simpa using this
        obtain ⟨vals, hv1, hv2⟩ := prel_vals parts cparts.toList 0 hp (by rw [hlen, ← List.range_eq_range']; exact c2)
        have hvl : vals.length = len := by have := hv2.length; simpa [hlen] using this
        have hvs : ∀ v ∈ vals, (VCells v).length = n := by
          intro v hv
          obtain ⟨x, hx, hr⟩ := hv2.forall_mem v hv
          rw [VCells_length hr]
          obtain ⟨p, hp', rfl⟩ := List.mem_map.1 hx
          exact (c3 p hp').1
        have hones : ∀ u ∈ vals.flatMap VCells, u.oneCell' = true := by
          intro u hu'
          obtain ⟨v, hv, huv⟩ := List.mem_flatMap.1 hu'
          obtain ⟨x, hx, hr⟩ := hv2.forall_mem v hv
          obtain ⟨p, hp', rfl⟩ := List.mem_map.1 hx
          exact hr.cells.ones (by simpa [List.all_eq_true] using (c3 p hp').2) u huv
        have hfl := flatMap_length vals hvs
        have key : ∀ zz : Array Value, ∃ out : Array Value, Instr.fill (fun i => some (i * n, n)) ((Array.range (len * n)).map (zz[· % zz.size]!)) cparts.toList = some out ∧ out.toList = vals.flatMap VCells := by
          intro zz
          obtain ⟨out, k1, k2⟩ := fill_dense n vals 0 ((Array.range (len * n)).map (zz[· % zz.size]!)) hvs (by simp [hvl])
          refine ⟨out, by rw [hv1]; exact k1, ?_⟩
          rw [k2]
          unfold splice
          simp only [Nat.zero_mul, List.take_zero, List.nil_append, Nat.zero_add]
          rw [List.drop_eq_nil_of_le (by simp [hfl, hvl])]
          simp
        have c1' : ¬ (16777216 < len * n) := by omega
        obtain ⟨ii, q1, q2⟩ := tySize_spec hs
        obtain ⟨out, hrun, hout⟩ : ∃ out : Array Value, (Instr.buildSlice t len cparts).run P w = .ok (.slice (some ⟨w.heap.size, 0, none⟩) len len) (w.alloc (.cells out e)) ∧ out.toList = vals.flatMap VCells := by
          by_cases h0 : len * n = 0
          · obtain ⟨out, k1, k2⟩ := key #[]
            refine ⟨out, ?_, k2⟩
            simp only [h0] at k1
            simp [Instr.buildSlice, run_underlying hu, run_sizeOf' hs, c1', h0]
            simp only [Array.range_zero', Array.map_empty] at k1
            simp [Array.range_zero', k1, newRow]
          · obtain ⟨out, k1, k2⟩ := key zv.cells
            refine ⟨out, ?_, k2⟩
            simp [Instr.buildSlice, run_underlying hu, run_sizeOf' hs, c1', h0, run_zeroValue' g1 g2, k1, newRow]
        have hn1 : n = 1 := by
          unfold freshB at hfresh
          simp only [hu, Bool.and_eq_true] at hfresh
          have h2 := hfresh.2
          split at h2
          · rw [hs] at h2
            simpa using h2
          · cases h2
        subst hn1
        have hol : out.size = len := by
          have := congrArg List.length hout
          rw [Array.length_toList, hfl, hvl, Nat.mul_one] at this
          exact this
        obtain ⟨m', s1, hcell, hrho⟩ := Step.newList hi out e (0, 0) len 1 len (Nat.le_refl _) (by rw [hol, Nat.mul_one]) (fun j hj => by simp) (by
          rw [Nat.mul_one, List.take_of_length_le (by rw [Array.length_toList, hol]; exact Nat.le_refl _), hout]; exact hones)
        refine ⟨_, _, m', hrun, s1, ?_⟩
        rw [Nat.mul_one, List.take_of_length_le (by rw [Array.length_toList, hol]; exact Nat.le_refl _), hout] at hcell
        have hl2 : (parts.map (·.2)).length = len := by simp [hlen]
        simp only [tokV, VRel]
        exact .inr ⟨⟨w.heap.size, 0, none⟩, len, vals, 1, by rw [hl2], fun _ => rfl, by rw [hl2]; exact Nat.le_refl _, VRelL.mono s1.le _ _ hv2, hvs, hcell, by simp, fun τ hτ => by simp only [Option.some.injEq] at hτ; subst hτ; rw [hl2]; exact hrho⟩
      · cases he
    · cases he
  · cases he

theorem newVar_ok {m : M} {h : Heap} {w : World} (hi : Inv m h w) {x : AV} {v : Value} (hx : VRel m x v) (ho : x.cells.all AV.one = true) (t : TypeId) (P : Program) :
    ∃ m', (newVar t v).run P w = .ok ⟨w.heap.size, 0, none⟩ (w.alloc (.cells v.cells t)) ∧ Step w.heap.size m h w m' (h ++ [.cells x.cells]) (w.alloc (.cells v.cells t)) ∧
      VRel m' (.ptr h.length 0) (.pointer (some ⟨w.heap.size, 0, none⟩)) := by
  obtain ⟨m', s, hmu⟩ := Step.newVar hi v.cells t x.cells hx.cells (hx.cells.ones ho)
  refine ⟨m', by simp [newVar, newRow], s, ?_⟩
  simp only [VRel]
  exact ⟨_, hmu, rfl⟩

theorem storeA_ok {P : Program} {m : M} {h h' : Heap} {w : World} (hi : Inv m h w) {t : TypeId} {x y : AV} {b : Nat} (he : storeA P t h x y = some (h', b)) {u v : Value} (hx : VRel m x u) (hy : VRel m y v) :
    ∃ w', (Instr.storeAt t u v).run P w = .ok () w' ∧ Step w.heap.size m h w m h' w' ∧ h' = h.set b (h'.getD b default) := by
  unfold storeA at he
  split at he
  · rename_i bb o
    split at he
    · rename_i cs hb
      split at he
      · rename_i hc
        simp only [Bool.and_eq_true, decide_eq_true_eq, beq_iff_eq] at hc
        obtain ⟨⟨c1, c2⟩, c3⟩ := hc
        simp only [Option.some.injEq, Prod.mk.injEq] at he
        obtain ⟨rfl, rfl⟩ := he
        simp only [VRel] at hx
        obtain ⟨c, hm, rfl⟩ := hx
        obtain ⟨c', cvs, tt, k1, k2, k3, k4, k5⟩ := hi.var bb cs hb
        rw [hm] at k1
        cases k1
        have hyl := VCells_length hy
        have hcl := k3.length
        have hones := hy.cells.ones c3
        have s := Step.set (B := w.heap.size) hi hb hm o y.cells (VCells v) hy.cells hones c2
        refine ⟨_, ?_, s, ?_⟩
        · have hst := run_storeCells_cells (P := P) c o (VCells v) 0 w (fun j hj => by
              rw [Nat.add_zero, cell_row k2]
              have : o + j < cvs.size := by simp at hcl; omega
              simp [this]) (fun j hj => by unfold World.frozen?; rw [Nat.add_zero, k2]; simp) hones
          simp only [Nat.add_zero] at hst
          have hsz : v.cells.size = y.cells.length := hyl
          have h2 := run_sizeOf' (P := P) c1 w
          simp only [Instr.storeAt, Instr.sureAddr, Sem.run_bind, Sem.run_pure, Result.andThen_ok, storeVar, h2]
          rw [if_neg (by omega)]
          exact hst
        · have hbl := (List.getElem?_eq_some_iff.1 hb).1
          apply List.ext_getElem?
          intro i
          by_cases e : bb = i
          · subst e
            rw [List.getElem?_set_self (by simpa using hbl), List.getElem?_set_self (by simpa using hbl)]
            simp [List.getD, hbl]
          · rw [List.getElem?_set_ne e, List.getElem?_set_ne e]
      · cases he
    · cases he
  · cases he

end Go.Proofs.Ytnifldbmflkmpaa.Ev

/-
  append and make.
-/
namespace Go.Proofs.Ytnifldbmflkmpaa.Ev
open Go
set_option linter.unusedVariables false
set_option linter.unusedSimpArgs false

theorem one_cells {v : Value} (h : v.oneCell' = true) : VCells v = [v] := by
  cases v <;> first | rfl | (simp [Value.oneCell'] at h)

theorem elems_run {P : Program} {m : M} {h : Heap} {w : World} (hi : Inv m h w) {n : Nat} {src : AV} {ys : List AV} (he : elemsA h n src = some ys) {u : Value} (hx : VRel m src u) :
    ∃ cys : List Value, VRelL m ys cys ∧ (∀ v ∈ cys, (VCells v).length = n) ∧ (∀ c ∈ cys.flatMap VCells, c.oneCell' = true) ∧
      ∀ w' : World, w'.heap = w.heap → (Builtin.lenOf u).run P w' = .ok ys.length w' ∧ (Builtin.firstCells n ys.length u).run P w' = .ok (cys.flatMap VCells).toArray w' := by
  unfold elemsA at he
  split at he
  · simp only [Option.some.injEq] at he; subst he
    simp only [VRel] at hx; subst hx
    exact ⟨[], .nil, by simp, by simp, fun w' _ => ⟨by simp [Builtin.lenOf], by simp [Builtin.firstCells]⟩⟩
  · rename_i xs nn cap tok
    split at he
    · rename_i hok
      simp only [Option.some.injEq] at he; subst he
      simp only [VRel] at hx
      rcases hx with ⟨rfl, _, _, _, rfl⟩ | ⟨a, cap', cvs, s, rfl, g2, g3, g4, g5, g6, g7, g8⟩
      · exact ⟨[], .nil, by simp, by simp, fun w' _ => ⟨by simp [Builtin.lenOf], by simp [Builtin.firstCells]⟩⟩
      · have hl := g4.length
        refine ⟨cvs, g4, ?_, ?_, fun w' hw' => ⟨by simp [Builtin.lenOf], ?_⟩⟩
        · rcases headOk_spec g4 g5 hok with h0 | rfl
          · subst h0
            simp only [VRelL] at g4
            subst g4
            simp
          · exact g5
        · intro c hc
          obtain ⟨i, hic⟩ := List.mem_iff_getElem?.1 hc
          exact hi.fone _ _ (g6 i c hic)
        · have hsn : (cvs.flatMap VCells).length = xs.length * n := by
            rw [flatMap_length cvs g5, hl]
            rcases headOk_spec g4 g5 hok with h0 | rfl
            · subst h0; simp
            · rfl
          have := run_loadCells_list (P := P) w' a (cvs.flatMap VCells) (fun j v hv => by
            rw [Addr.add_none a (spot_of g2 g3 g4 hv), cell?_heap hw']; exact hi.f _ _ (g6 j v hv))
          rw [hsn] at this
          simpa [Builtin.firstCells] using this
    · cases he
  · rename_i s
    split at he
    · rename_i hn
      subst hn
      simp only [Option.some.injEq] at he; subst he
      simp only [VRel] at hx
      obtain ⟨b, rfl, rfl⟩ := hx
      have h1 : ∀ v ∈ b.data.toList.map (fun c => Value.int .u8 (c.toNat : Int)), VCells v = [v] := by
        intro v hv; obtain ⟨c, _, rfl⟩ := List.mem_map.1 hv; rfl
      refine ⟨_, ofBytes_rel _, ?_, ?_, fun w' _ => ⟨?_, ?_⟩⟩
      · intro v hv; rw [h1 v hv]; rfl
      · rw [flatMap_one _ h1]; intro v hv; obtain ⟨c, _, rfl⟩ := List.mem_map.1 hv; rfl
      · simp [Builtin.lenOf, ofBytes]
      · rw [flatMap_one _ h1]
        simp only [Builtin.firstCells, Sem.run_pure]
        have e1 : (ofBytes b.data.toList).length = b.size := by simp [ofBytes]
        rw [e1]
        congr 1
        apply Array.ext'
        simp [Lib.extract_data]
    · cases he
  · rename_i b o len cap
    split at he
    · rename_i cs hb
      split at he
      · rename_i hc
        simp only [Bool.and_eq_true, beq_iff_eq, decide_eq_true_eq] at hc
        obtain ⟨rfl, hle⟩ := hc
        simp only [Option.some.injEq] at he; subst he
        simp only [VRel] at hx
        obtain ⟨c, hm, rfl⟩ := hx
        obtain ⟨c', cvs, t', k1, k2, k3, k4, k5⟩ := hi.var b cs hb
        rw [hm] at k1
        cases k1
        have hcl := k3.length
        have hone : ∀ v ∈ (cvs.toList.drop o).take len, v.oneCell' = true := fun v hv => k5 v (List.mem_of_mem_drop (List.mem_of_mem_take hv))
        have hlen : ((cs.drop o).take len).length = len := by simp; omega
        refine ⟨_, (k3.drop o).take len, ?_, ?_, fun w' hw' => ⟨?_, ?_⟩⟩
        · intro v hv; rw [one_cells (hone v hv)]; rfl
        · rw [flatMap_one _ (fun v hv => one_cells (hone v hv))]; exact hone
        · simp [Builtin.lenOf]; omega
        · rw [flatMap_one _ (fun v hv => one_cells (hone v hv)), hlen]
          have := run_loadCells_list (P := P) w' ⟨c, o, none⟩ ((cvs.toList.drop o).take len) (fun j v hv => by
            rw [Addr.add_mid, cell?_heap hw', cell_row k2]
            rw [List.getElem?_take] at hv
            split at hv
            · simpa using hv
            · cases hv)
          have hl2 : ((cvs.toList.drop o).take len).length = len := by simp at hcl ⊢; omega
          rw [hl2] at this
          simpa [Builtin.firstCells] using this
      · cases he
    · cases he
  · cases he

/-- Room enough (or nothing to append). -/
theorem run_append_in {P : Program} {w w' : World} {t u ty e : TypeId} {ud : TypeDesc} (ht : P.underlying t = some (.slice e)) (hu : P.underlying u = some ud) (hni : ud = .string ∨ ∃ e', ud = .slice e') {n : Nat} (hn : tySize P e = some n)
    {base : Option Addr} {sLen sCap k : Nat} {x : Value} {news : List Value} (hl : (Builtin.lenOf x).run P w = .ok k w) (hf : (Builtin.firstCells n k x).run P w = .ok news.toArray w)
    (hroom : sLen + k ≤ sCap) (hst : ∀ a, base = some a → (storeCells (a.add (sLen * n)) news).run P w = .ok () w') (hb : base = none → w' = w) :
    (Builtin.append_ #[t, u] ty #[.slice base sLen sCap, x]).run P w = .ok (.slice base (sLen + k) sCap) w' := by
  cases base with
  | none =>
    have := hb rfl
    subst this
    rcases hni with rfl | ⟨e', rfl⟩ <;> simp [Builtin.append_, run_underlying ht, run_underlying hu, run_sizeOf' hn, hl, hf, hroom]
  | some a =>
    have := hst a rfl
    rcases hni with rfl | ⟨e', rfl⟩ <;> simp [Builtin.append_, run_underlying ht, run_underlying hu, run_sizeOf' hn, hl, hf, hroom, this]

/-- No room: a new row. -/
theorem run_append_out {P : Program} {w : World} {t u ty e : TypeId} {ud : TypeDesc} (ht : P.underlying t = some (.slice e)) (hu : P.underlying u = some ud) (hni : ud = .string ∨ ∃ e', ud = .slice e') {i : TypeInfo} {z : Value} (hi : P.info? e = some i) (hz : i.zero = some z)
    {base : Option Addr} {sLen sCap k : Nat} {x : Value} {olds news : List Value} (hl : (Builtin.lenOf x).run P w = .ok k w) (hf : (Builtin.firstCells i.size k x).run P w.drew = .ok news.toArray w.drew)
    (ho : (Builtin.firstCells i.size sLen (.slice base sLen sCap)).run P w.drew = .ok olds.toArray w.drew)
    (hroom : sCap < sLen + k) (h63 : sLen + k ≤ 9223372036854775807) (hfit : Builtin.nextslicecap (sLen + k) sCap * i.bytes ≤ 281474976710656) :
    (Builtin.append_ #[t, u] ty #[.slice base sLen sCap, x]).run P w =
      .ok (.slice (some ⟨w.heap.size, 0, none⟩) (sLen + k) (grownCap w (sLen + k) sCap e))
        (w.drew.alloc (.cells (olds.toArray ++ (news.toArray ++ Builtin.zeroCells z.cells (grownCap w (sLen + k) sCap e - (sLen + k)))) e)) := by
  have hn : ¬ (sLen + k ≤ sCap) := by omega
  have h63' : ¬ (9223372036854775807 < ((sLen : Int) + (k : Int))) := by omega
  have h48' : ¬ (281474976710656 < Builtin.nextslicecap (sLen + k) sCap * i.bytes) := by omega
  rcases hni with rfl | ⟨e', rfl⟩ <;> simp [Builtin.append_, run_underlying ht, run_underlying hu, sizeOf, typeInfo, zeroValue, hi, hz, hl, hn, h63', h48', Question.forced, hf, ho, newRow, grownCap, IntKind.max, IntKind.signed, IntKind.bits]

theorem VRelL.flat {m : M} {xs : List AV} {cvs : List Value} (h : VRelL m xs cvs) : cvs.length = xs.length := h.length

/-- The list's own cells, as append reads them. -/
theorem firstCells_list {P : Program} {m : M} {h : Heap} {w : World} (hi : Inv m h w) {xs : List AV} {cvs : List Value} {s n : Nat} {a : Addr} {cap' : Nat} (g2 : cap' ≠ 0 → a.spot = none) (g3 : xs.length ≤ cap') (g4 : VRelL m xs cvs)
    (g5 : ∀ cv ∈ cvs, (VCells cv).length = s) (g6 : CellsF m.F a (cvs.flatMap VCells)) (hok : headOk n xs = true) {w' : World} (hw : w'.heap = w.heap) :
    (Builtin.firstCells n xs.length (.slice (some a) xs.length cap')).run P w' = .ok (cvs.flatMap VCells).toArray w' ∧ (cvs.flatMap VCells).length = xs.length * n := by
  have hl := g4.length
  have hsn : (cvs.flatMap VCells).length = xs.length * n := by
    rw [flatMap_length cvs g5, hl]
    rcases headOk_spec g4 g5 hok with h0 | rfl
    · subst h0; simp
    · rfl
  have := run_loadCells_list (P := P) w' a (cvs.flatMap VCells) (fun j v hv => by
    rw [Addr.add_none a (spot_of g2 g3 g4 hv), cell?_heap hw]; exact hi.f _ _ (g6 j v hv))
  rw [hsn] at this
  exact ⟨by simpa [Builtin.firstCells] using this, hsn⟩

theorem grown_bound (w : World) (need old : Nat) (e : TypeId) : need ≤ grownCap w need old e := grownCap_ge w need old e

/-- A list that has been copied to a new row reads as what was copied. -/
theorem rel_moved {m' : M} {xs : List AV} {cvs : List Value} {n cap τ c : Nat} (hr : VRelL m' xs cvs) (hs : ∀ v ∈ cvs, (VCells v).length = n) {arr : List Value} (hc : CellsF m'.F ⟨c, 0, none⟩ (arr.take (xs.length * n)))
    (ha : arr.take (xs.length * n) = cvs.flatMap VCells) (hle : xs.length ≤ cap) (hrho : m'.rho τ xs.length = some (⟨c, 0, none⟩, cap)) :
    VRel m' (.list xs true none (some τ)) (.slice (some ⟨c, 0, none⟩) xs.length cap) := by
  simp only [VRel]
  refine .inr ⟨⟨c, 0, none⟩, cap, cvs, n, rfl, fun _ => rfl, hle, hr, hs, by rw [← ha]; exact hc, by simp, ?_⟩
  intro τ' hτ
  simp only [Option.some.injEq] at hτ
  subst hτ
  exact hrho

theorem appendA_ok {P : Program} {m : M} {h h' : Heap} {w : World} (hi : Inv m h w) {ts : Array TypeId} {ty : TypeId} {dst src z : AV} {wr : Option Nat} (he : appendA P ts.toList h dst src = some (z, h', wr))
    {u v : Value} (hx : VRel m dst u) (hy : VRel m src v) :
    (∃ r w' m', (Builtin.append_ ts ty #[u, v]).run P w = .ok r w' ∧ Step w.heap.size m h w m' h' w' ∧ VRel m' z r) ∧ (∀ i, wr ≠ some i → i < h.length → h'[i]? = h[i]?) ∧ h.length ≤ h'.length := by
  unfold appendA at he
  split at he
  case h_2 => cases he
  rename_i t t2 hts
  have hts' : ts = #[t, t2] := by apply Array.ext'; rw [hts]
  subst hts'
  split at he
  case h_2 => cases he
  rename_i e ud ht hu
  split at he
  · cases he
  rename_i hud
  have hud' : ud = .string ∨ ∃ e', ud = .slice e' := by
    cases ud <;> simp [appendable] at hud ⊢
  split at he
  case h_2 => cases he
  rename_i n by_ z0 hn hby hz0
  obtain ⟨i, zv, q1, q2, q3⟩ := tyZero_spec hz0
  obtain ⟨i', q1', hsz⟩ := tySize_spec hn
  rw [q1] at q1'
  cases q1'
  have hbytes : i.bytes = by_ := by unfold tyBytes at hby; simp [q1] at hby; exact hby
  split at he
  case h_2 => cases he
  rename_i ys hys
  split at he
  · cases he
  rename_i hzl
  have hzs : zv.cells.size = n := by have := VCells_length (q3 m); simp only [VCells, Array.length_toList] at this; omega
  obtain ⟨cys, e1, e2, e3, e4⟩ := elems_run (P := P) hi hys hy
  have hcl := e1.length
  have hfl := flatMap_length cys e2
  have hzc : ∀ k, (Builtin.zeroCells zv.cells k).size = k * n := fun k => by simp [Builtin.zeroCells, hzs]
  split at he
  · -- nil
    simp only [VRel] at hx
    subst hx
    split at he
    · rename_i hemp
      simp only [Option.some.injEq, Prod.mk.injEq] at he
      obtain ⟨rfl, rfl, rfl⟩ := he
      have hy0 : ys = [] := by simpa using hemp
      subst hy0
      obtain ⟨l1, l2⟩ := e4 w rfl
      have := run_append_in (P := P) (w := w) (w' := w) (ty := ty) ht hu hud' hn l1 l2 (sLen := 0) (sCap := 0) (base := none) (by simp) (by simp) (by simp)
      exact ⟨⟨_, w, m, this, Step.refl hi, by simp only [VRel]; simp⟩, fun _ _ _ => rfl, Nat.le_refl _⟩
    · rename_i hemp
      split at he
      · rename_i hb
        simp only [Option.some.injEq, Prod.mk.injEq] at he
        obtain ⟨rfl, rfl, rfl⟩ := he
        refine ⟨?_, fun i _ hi' => by rw [List.getElem?_append_left hi'], by simp⟩
        have hpos : 0 < ys.length := by cases ys <;> simp at hemp ⊢
        obtain ⟨l1, _⟩ := e4 w rfl
        obtain ⟨_, l2⟩ := e4 w.drew rfl
        have hrun := run_append_out (P := P) (w := w) (ty := ty) ht hu hud' q1 q2 (base := none) (sLen := 0) (sCap := 0) (olds := []) l1 (by rw [hsz]; exact l2) (by simp [Builtin.firstCells]) (by omega) (by omega)
          (growslice_fits (by omega) (by rw [hbytes, Nat.zero_add]; omega))
        simp only [Nat.zero_add] at hrun
        have hge := grownCap_ge w ys.length 0 e
        have s0 := Step.same (B := w.heap.size) hi (w' := w.drew) rfl rfl rfl rfl
        obtain ⟨arr, harr⟩ : ∃ arr : Array Value, arr = ([] : List Value).toArray ++ ((cys.flatMap VCells).toArray ++ Builtin.zeroCells zv.cells (grownCap w ys.length 0 e - ys.length)) := ⟨_, rfl⟩
        rw [← harr] at hrun
        have htk : arr.toList.take (ys.length * n) = cys.flatMap VCells := by
          rw [harr]
          simp only [Array.toList_append, List.nil_append]
          rw [List.take_append_of_le_length (by simp [hfl, hcl])]
          exact List.take_of_length_le (by simp [hfl, hcl])
        have hasz : arr.size = grownCap w ys.length 0 e * n := by
          rw [harr]
          simp only [Array.size_append, hzc, List.size_toArray, hfl, hcl, List.length_nil, Nat.zero_add, ← Nat.add_mul]
          congr 1; omega
        obtain ⟨m', s1, hc, hr⟩ := Step.newList s0.inv arr e (0, 0) ys.length n (grownCap w ys.length 0 e) hge hasz (fun j _ => by simp) (by rw [htk]; exact e3)
        exact ⟨_, _, m', hrun, s0.trans s1, rel_moved (VRelL.mono (s0.trans s1).le _ _ e1) e2 hc htk hge hr⟩
      · cases he
  · rename_i xs nn cap tok
    split at he
    · rename_i hemp
      simp only [Option.some.injEq, Prod.mk.injEq] at he
      obtain ⟨rfl, rfl, rfl⟩ := he
      have hy0 : ys = [] := by simpa using hemp
      subst hy0
      simp only [VRelL] at e1
      subst e1
      obtain ⟨l1, l2⟩ := e4 w rfl
      have hx' := hx
      simp only [VRel] at hx
      rcases hx with ⟨rfl, _, _, _, rfl⟩ | ⟨a, cap', cvs, s, rfl, g2, g3, g4, g5, g6, g7, g8⟩
      · have := run_append_in (P := P) (w := w) (w' := w) (ty := ty) ht hu hud' hn l1 l2 (sLen := 0) (sCap := 0) (base := none) (by simp) (by simp) (by simp)
        exact ⟨⟨_, w, m, this, Step.refl hi, by simpa using hx'⟩, fun _ _ _ => rfl, Nat.le_refl _⟩
      · have := run_append_in (P := P) (w := w) (w' := w) (ty := ty) ht hu hud' hn l1 l2 (sLen := xs.length) (sCap := cap') (base := some a) (by simpa using g3) (by intro a' _; simp [storeCells]) (by simp)
        exact ⟨⟨_, w, m, this, Step.refl hi, by simpa using hx'⟩, fun _ _ _ => rfl, Nat.le_refl _⟩
    · rename_i hemp
      have hpos : 0 < ys.length := by cases ys <;> simp at hemp ⊢
      split at he
      · cases he
      rename_i hb
      have hb' : (xs.length + ys.length) * by_ ≤ 35184372088832 ∧ xs.length + ys.length ≤ 35184372088832 := Classical.not_not.1 hb
      split at he
      · cases he
      rename_i hok
      have hok' : headOk n xs = true := by cases hh : headOk n xs <;> simp_all
      obtain ⟨l1, l1'⟩ := e4 w rfl
      obtain ⟨_, l2⟩ := e4 w.drew rfl
      -- the growing row, for whatever becomes of the right
      have grow : ∀ (a : Addr) (cap' s : Nat) (cvs : List Value), (cap' ≠ 0 → a.spot = none) → xs.length ≤ cap' → VRelL m xs cvs → (∀ cv ∈ cvs, (VCells cv).length = s) → CellsF m.F a (cvs.flatMap VCells) → cap' < xs.length + ys.length →
          ∃ arr : Array Value, (Builtin.append_ #[t, t2] ty #[.slice (some a) xs.length cap', v]).run P w = .ok (.slice (some ⟨w.heap.size, 0, none⟩) (xs ++ ys).length (grownCap w (xs.length + ys.length) cap' e)) (w.drew.alloc (.cells arr e)) ∧
            arr.size = grownCap w (xs.length + ys.length) cap' e * n ∧ arr.toList.take ((xs ++ ys).length * n) = (cvs ++ cys).flatMap VCells ∧ (∀ c ∈ (cvs ++ cys).flatMap VCells, c.oneCell' = true) ∧ ∀ cv ∈ cvs ++ cys, (VCells cv).length = n := by
        intro a cap' s cvs g2 g3 g4 g5 g6 hlt
        obtain ⟨o1, o2⟩ := firstCells_list (P := P) (cap' := cap') hi g2 g3 g4 g5 g6 hok' (w' := w.drew) rfl
        have hrun := run_append_out (P := P) (w := w) (ty := ty) ht hu hud' q1 q2 (base := some a) (sLen := xs.length) (sCap := cap') l1 (by rw [hsz]; exact l2) (by rw [hsz]; exact o1) hlt (by omega)
          (growslice_fits hlt (by rw [hbytes]; omega))
        have hge := grownCap_ge w (xs.length + ys.length) cap' e
        refine ⟨_, by rw [List.length_append]; exact hrun, ?_, ?_, ?_, ?_⟩
        · simp only [Array.size_append, hzc, List.size_toArray, hfl, hcl, o2, ← Nat.add_mul]
          congr 1; omega
        · simp only [Array.toList_append, List.flatMap_append, List.length_append]
          rw [← List.append_assoc, List.take_append_of_le_length (by simp [hfl, hcl, o2, Nat.add_mul])]
          exact List.take_of_length_le (by simp [hfl, hcl, o2, Nat.add_mul])
        · intro c hc
          simp only [List.flatMap_append, List.mem_append] at hc
          rcases hc with hc | hc
          · obtain ⟨j, hj⟩ := List.mem_iff_getElem?.1 hc
            exact hi.fone _ _ (g6 j c hj)
          · exact e3 c hc
        · intro cv hcv
          rcases List.mem_append.1 hcv with hcv | hcv
          · rcases headOk_spec g4 g5 hok' with h0 | rfl
            · subst h0
              simp only [VRelL] at g4
              subst g4
              cases hcv
            · exact g5 cv hcv
          · exact e2 cv hcv
      simp only [VRel] at hx
      split at he
      · rename_i hcap
        simp only [Option.some.injEq, Prod.mk.injEq] at he
        obtain ⟨rfl, rfl, rfl⟩ := he
        refine ⟨?_, fun i _ hi' => by rw [List.getElem?_append_left hi'], by simp⟩
        rcases hx with ⟨rfl, _, _, _, rfl⟩ | ⟨a, cap', cvs, s, rfl, g2, g3, g4, g5, g6, g7, g8⟩
        · have hrun := run_append_out (P := P) (w := w) (ty := ty) ht hu hud' q1 q2 (base := none) (sLen := 0) (sCap := 0) (olds := []) l1 (by rw [hsz]; exact l2) (by simp [Builtin.firstCells]) (by omega) (by simp at hb'; omega)
            (growslice_fits (by omega) (by rw [hbytes, Nat.zero_add]; have := hb'.1; simp only [List.length_nil, Nat.zero_add] at this; omega))
          simp only [Nat.zero_add, List.nil_append, List.length_nil] at hrun ⊢
          have hge := grownCap_ge w ys.length 0 e
          have s0 := Step.same (B := w.heap.size) hi (w' := w.drew) rfl rfl rfl rfl
          obtain ⟨arr, harr⟩ : ∃ arr : Array Value, arr = ([] : List Value).toArray ++ ((cys.flatMap VCells).toArray ++ Builtin.zeroCells zv.cells (grownCap w ys.length 0 e - ys.length)) := ⟨_, rfl⟩
          rw [← harr] at hrun
          have htk : arr.toList.take (ys.length * n) = cys.flatMap VCells := by
            rw [harr]
            simp only [Array.toList_append, List.nil_append]
            rw [List.take_append_of_le_length (by simp [hfl, hcl])]
            exact List.take_of_length_le (by simp [hfl, hcl])
          have hasz : arr.size = grownCap w ys.length 0 e * n := by
            rw [harr]
            simp only [Array.size_append, hzc, List.size_toArray, hfl, hcl, List.length_nil, Nat.zero_add, ← Nat.add_mul]
            congr 1; omega
          obtain ⟨m', s1, hc, hr⟩ := Step.newList s0.inv arr e (0, 0) ys.length n (grownCap w ys.length 0 e) hge hasz (fun j _ => by simp) (by rw [htk]; exact e3)
          exact ⟨_, _, m', hrun, s0.trans s1, rel_moved (VRelL.mono (s0.trans s1).le _ _ e1) e2 hc htk hge hr⟩
        · have hce := g7 xs.length hcap
          obtain ⟨arr, hrun, a1, a2, a3, a4⟩ := grow a cap' s cvs g2 g3 g4 g5 g6 (by omega)
          have hge := grownCap_ge w (xs.length + ys.length) cap' e
          have s0 := Step.same (B := w.heap.size) hi (w' := w.drew) rfl rfl rfl rfl
          obtain ⟨m', s1, hc, hr⟩ := Step.newList s0.inv arr e (0, 0) (xs.length + ys.length) n _ hge a1 (fun j _ => by simp) (by rw [← List.length_append, a2]; exact a3)
          exact ⟨_, _, m', hrun, s0.trans s1, rel_moved ((VRelL.mono (s0.trans s1).le _ _ g4).append (VRelL.mono (s0.trans s1).le _ _ e1)) a4 (by rw [List.length_append]; exact hc) a2 (by rw [List.length_append]; exact hge) (by rw [List.length_append]; exact hr)⟩
      · rename_i hcap
        split at he
        case h_2 => cases he
        rename_i τ
        split at he
        case h_2 => cases he
        rename_i k sz hτ
        split at he
        case isFalse => cases he
        rename_i hk
        obtain ⟨rfl, rfl⟩ := hk
        simp only [Option.some.injEq, Prod.mk.injEq] at he
        obtain ⟨rfl, rfl, rfl⟩ := he
        refine ⟨?_, fun i hne _ => by rw [List.getElem?_set_ne (fun e => hne (by rw [e]))], by simp⟩
        rcases hx with ⟨_, _, _, hc0, _⟩ | ⟨a, cap', cvs, s, rfl, g2, g3, g4, g5, g6, g7, g8⟩
        · cases hc0
        · have hrho := g8 τ rfl
          by_cases hroom : xs.length + ys.length ≤ cap'
          · -- in place
            obtain ⟨a', ca, r1, r2⟩ := hi.own τ _ _ hτ
            rw [hrho] at r1
            cases r1
            have hmul : xs.length * sz + ys.length * sz ≤ cap' * sz := by rw [← Nat.add_mul]; exact Nat.mul_le_mul_right _ hroom
            have hst := run_storeCells_cells (P := P) a.block (a.off + xs.length * sz) (cys.flatMap VCells) 0 w (fun j hj => by
                obtain ⟨⟨v, hv⟩, _, _⟩ := r2.cell (xs.length * sz + j) (by omega) (by rw [hfl, hcl] at hj; omega)
                rw [show a.off + xs.length * sz + 0 + j = a.off + (xs.length * sz + j) by omega, hv]; rfl) (fun j hj => by
                obtain ⟨_, hz, _⟩ := r2.cell (xs.length * sz + j) (by omega) (by rw [hfl, hcl] at hj; omega)
                rw [show a.off + xs.length * sz + 0 + j = a.off + (xs.length * sz + j) by omega]; exact hz) e3
            simp only [Nat.add_zero] at hst
            have hrun := run_append_in (P := P) (w := w) (w' := w.setCells a.block (a.off + xs.length * sz) (cys.flatMap VCells)) (ty := ty) ht hu hud' hn l1 l1' (sLen := xs.length) (sCap := cap') (base := some a) hroom
              (by intro a' ha; cases ha; rw [Addr.add_none a r2.spot]; exact hst) (by simp)
            have s1 := Step.setSpare (B := w.heap.size) hi hτ hrho (cys.flatMap VCells) (by rw [hfl, hcl]; exact hmul)
            obtain ⟨a'', ca', r3, r4⟩ := s1.inv.own τ _ _ hτ
            rw [hrho] at r3
            cases r3
            have hle2 : xs.length * sz ≤ (xs.length + ys.length) * sz := Nat.mul_le_mul_right _ (by omega)
            have s2 := Step.retok (B := w.heap.size) s1.inv τ xs.length sz (xs.length + ys.length) hτ (by omega) a cap'
              ⟨r4.spot, hroom, fun j j1 j2 => r4.cell j (by omega) j2, r4.lt, r4.var⟩ (.inr ⟨a, cap', hrho, rfl⟩)
              (fun i k tz b cb hne e0 e1' => s1.inv.apart i τ k xs.length tz sz b a cb cap' e0 hτ e1' hrho hne)
            let G : Addr → Option Value := fun x => if x.block = a.block ∧ x.spot = none ∧ a.off + xs.length * sz ≤ x.off then (cys.flatMap VCells)[x.off - (a.off + xs.length * sz)]? else none
            have hG : ∀ x u, G x = some u → x.block = a.block ∧ x.spot = none ∧ a.off + xs.length * sz ≤ x.off ∧ (cys.flatMap VCells)[x.off - (a.off + xs.length * sz)]? = some u := by
              intro x u hx
              simp only [G] at hx
              split at hx
              · rename_i hc; exact ⟨hc.1, hc.2.1, hc.2.2, hx⟩
              · cases hx
            have hτ2 : (h.set τ (.own (xs.length + ys.length) sz))[τ]? = some (.own (xs.length + ys.length) sz) := by
              rw [List.getElem?_set_self (List.getElem?_eq_some_iff.1 hτ).1]
            have s3 := Step.fro (B := w.heap.size) s2.inv G (by
                intro x u hx
                obtain ⟨c1, c2, c3, c4⟩ := hG x u hx
                obtain ⟨b, o, sp⟩ := x
                simp only at c1 c2 c3 c4
                subst c1 c2
                rw [List.getElem?_eq_some_iff] at c4
                obtain ⟨c4, c5⟩ := c4
                have := World.cell?_setCells_in a.block (cys.flatMap VCells) (a.off + xs.length * sz) w (fun j hj => by
                  obtain ⟨⟨v, hv⟩, _, _⟩ := r2.cell (xs.length * sz + j) (by omega) (by rw [hfl, hcl] at hj; omega)
                  rw [show a.off + xs.length * sz + j = a.off + (xs.length * sz + j) by omega, hv]; rfl) _ c4
                rw [show a.off + xs.length * sz + (o - (a.off + xs.length * sz)) = o by omega] at this
                rw [this, c5]) (by
                intro x u hx
                obtain ⟨c1, c2, c3, c4⟩ := hG x u hx
                exact e3 u (List.mem_of_getElem? c4)) (by
                intro x u hx k cs e0
                obtain ⟨c1, _⟩ := hG x u hx
                rw [c1]
                obtain ⟨b, cb, d1, d2⟩ := s2.inv.own τ _ _ hτ2
                simp at d1
                obtain ⟨rfl, rfl⟩ := d1
                exact d2.var k cs e0) (by
                intro i k tz b cb e0 e1' j j1 j2
                by_cases hiτ : i = τ
                · subst hiτ
                  rw [hτ2] at e0
                  cases e0
                  simp at e1'
                  obtain ⟨rfl, rfl⟩ := e1'
                  simp only [G]
                  split
                  · rename_i hc
                    rw [List.getElem?_eq_none]
                    rw [hfl, hcl]
                    rw [Nat.add_mul] at j1
                    omega
                  · rfl
                · have hne : b.block ≠ a.block := s2.inv.apart i τ k (xs.length + ys.length) tz sz b a cb cap' e0 hτ2 e1' (by simp) hiτ
                  simp only [G]
                  rw [if_neg (fun hc => hne hc.1)]) (by
                intro x u hx
                obtain ⟨c1, _⟩ := hG x u hx
                exact .inr (.inr ⟨τ, xs.length + ys.length, sz, a, cap', hτ2, by simp, c1.symm⟩))
            have st := (s1.trans s2).trans s3
            refine ⟨_, _, _, hrun, st, ?_⟩
            simp only [VRel]
            refine .inr ⟨a, cap', cvs ++ cys, sz, by rw [List.length_append], g2, by rw [List.length_append]; exact hroom, (VRelL.mono st.le _ _ g4).append (VRelL.mono st.le _ _ e1), ?_, ?_, by simp, ?_⟩
            · intro cv hcv
              rcases List.mem_append.1 hcv with hcv | hcv
              · rcases headOk_spec g4 g5 hok' with h0 | rfl
                · subst h0
                  simp only [VRelL] at g4
                  subst g4
                  cases hcv
                · exact g5 cv hcv
              · exact e2 cv hcv
            · obtain ⟨_, o2⟩ := firstCells_list (P := P) (cap' := cap') hi g2 g3 g4 g5 g6 hok' (w' := w) rfl
              intro j u hu'
              rw [List.flatMap_append] at hu'
              by_cases hj : j < (cvs.flatMap VCells).length
              · rw [List.getElem?_append_left hj] at hu'
                exact st.le.F _ _ (g6 j u hu')
              · rw [List.getElem?_append_right (by omega), o2] at hu'
                have hjj : (cys.flatMap VCells).length > j - xs.length * sz := (List.getElem?_eq_some_iff.1 hu').1
                obtain ⟨_, _, hF0⟩ := r2.cell j (by omega) (by rw [hfl, hcl] at hjj; omega)
                simp only [hF0]
                simp only [G]
                rw [if_pos (by refine ⟨trivial, trivial, ?_⟩; omega)]
                rw [show a.off + j - (a.off + xs.length * sz) = j - xs.length * sz by omega]
                exact hu'
            · intro τ' hτ'
              simp only [Option.some.injEq] at hτ'
              subst hτ'
              simp [List.length_append]
          · obtain ⟨arr, hrun, a1, a2, a3, a4⟩ := grow a cap' s cvs g2 g3 g4 g5 g6 (by omega)
            have hge := grownCap_ge w (xs.length + ys.length) cap' e
            have s0 := Step.same (B := w.heap.size) hi (w' := w.drew) rfl rfl rfl rfl
            obtain ⟨m', s1, hc, hr⟩ := Step.moveList s0.inv arr e (0, 0) (xs.length + ys.length) sz _ hge a1 (fun j _ => by simp) (by rw [← List.length_append, a2]; exact a3) τ xs.length hτ (by omega)
            exact ⟨_, _, m', hrun, s0.trans s1, rel_moved ((VRelL.mono (s0.trans s1).le _ _ g4).append (VRelL.mono (s0.trans s1).le _ _ e1)) a4 (by rw [List.length_append]; exact hc) a2 (by rw [List.length_append]; exact hge) (by rw [List.length_append]; exact hr)⟩
  · cases he

end Go.Proofs.Ytnifldbmflkmpaa.Ev

/-
  make; a whole operation.
-/
namespace Go.Proofs.Ytnifldbmflkmpaa.Ev
open Go
set_option linter.unusedVariables false
set_option linter.unusedSimpArgs false

theorem makeSliceA_ok {P : Program} {m : M} {h h' : Heap} {w : World} (hi : Inv m h w) {t : TypeId} {x y z : AV} (he : makeSliceA P t h x y = some (z, h')) {u v : Value} (hx : VRel m x u) (hy : VRel m y v) :
    ∃ r w' m', (Instr.makeSlice t u v).run P w = .ok r w' ∧ Step w.heap.size m h w m' h' w' ∧ VRel m' z r ∧ ∃ o, h' = h ++ [o] := by
  unfold makeSliceA at he
  split at he
  · rename_i e l c hu
    rw [hx.int', hy.int']
    split at he
    · rename_i n by_ z0 hn hby hz0
      obtain ⟨i, zv, q1, q2, q3⟩ := tyZero_spec hz0
      obtain ⟨i', q1', hsz⟩ := tySize_spec hn
      rw [q1] at q1'
      cases q1'
      have hbytes : i.bytes = by_ := by unfold tyBytes at hby; simp [q1] at hby; exact hby
      split at he
      · rename_i hc
        obtain ⟨c1, c2, c3, c4, c5, c6⟩ := hc
        have hrun := run_make (P := P) w t e i zv hu q1 q2 .i64 .i64 l c c1 c2 (by rw [hbytes, Int.mul_comm]; omega) (by omega)
        have hzs : zv.cells.size = n := by have := VCells_length (q3 m); simp only [VCells, Array.length_toList] at this; omega
        split at he
        · rename_i h0
          subst h0
          simp only [Option.some.injEq, Prod.mk.injEq] at he
          obtain ⟨rfl, rfl⟩ := he
          obtain ⟨m', s, hcell, hr⟩ := Step.newList hi (madeCells zv.cells (c.toNat * i.size)) e (0, 0) 0 n c.toNat (Nat.zero_le _) (by rw [size_madeCells, hsz]) (fun j _ => by simp) (by simp)
          refine ⟨_, _, m', hrun, s, ?_, _, rfl⟩
          simp only [VRel]
          exact .inr ⟨⟨w.heap.size, 0, none⟩, c.toNat, [], n, by simp, fun _ => rfl, by simp, .nil, by simp, by intro j q hq; simp at hq, by simp, by intro τ hτ; simp only [Option.some.injEq] at hτ; subst hτ; exact hr⟩
        · split at he
          · rename_i z1 hz1
            simp only [Option.some.injEq, Prod.mk.injEq] at he
            obtain ⟨rfl, rfl⟩ := he
            have hzc := (q3 m).cells
            rw [hz1] at hzc
            simp only [VRelL] at hzc
            obtain ⟨zc, zr, hzv, hzr, hnil⟩ := hzc
            subst hnil
            have hn1 : n = 1 := by rw [hz1] at c5; simpa using c5.symm
            subst hn1
            have hones := (q3 m).cells.ones c6
            have hmade : (madeCells zv.cells (c.toNat * i.size)).toList = List.replicate c.toNat zc := by
              rw [hsz, Nat.mul_one]
              apply List.ext_getElem?
              intro j
              have hz0 : zv.cells[0]! = zc := by
                have hza : zv.cells = #[zc] := Array.ext' hzv
                rw [hza]
                rfl
              simp only [madeCells, Array.toList_map, Array.toList_range, List.getElem?_map, hzs, Nat.mod_one, hz0]
              by_cases hj : j < c.toNat
              · rw [List.getElem?_range hj, List.getElem?_replicate, if_pos hj]; rfl
              · rw [List.getElem?_eq_none (by simpa using hj), List.getElem?_replicate, if_neg hj]; rfl
            obtain ⟨m', s, hmu⟩ := Step.newVar hi (madeCells zv.cells (c.toNat * i.size)) e (List.replicate c.toNat z1) (by rw [hmade]; exact VRelL.replicate hzr _) (by
              rw [hmade]
              intro q hq
              rw [List.eq_of_mem_replicate hq]
              exact hones zc (by rw [hzv]; simp))
            refine ⟨_, _, m', hrun, s, ?_, _, rfl⟩
            simp only [VRel]
            exact ⟨_, hmu, rfl⟩
          · cases he
      · cases he
    · cases he
  · cases he

/-- What a call must give: a value and a later state. -/
def CallSpec (P : Program) (call : CallFn) : Prop :=
  ∀ g vs h v h' d, call g vs h = some (v, h', d) → ∀ m w (us : Array Value), Inv m h w → VRelL m vs us.toList →
    Calls P g us w (fun e w' => ∃ u, e = .returned u ∧ ∃ m', Step w.heap.size m h w m' h' w' ∧ VRel m' v u) ∧ h.length ≤ h'.length ∧ (d = false → ∀ i, i < h.length → h'[i]? = h[i]?)

/-- What an operation comes to. -/
def Res (P : Program) (r : Result Next) (K : Value → World → Prop) : Prop :=
  match r with
  | .ok (.value v) w' => K v w'
  | .ok .skip w' => K undef w'
  | .ok (.enter f args) w' => Calls P f args w' fun e w'' => ∃ v, e = .returned v ∧ K v w''
  | _ => False

theorem Res.mono {P : Program} {r : Result Next} {K K' : Value → World → Prop} (h : Res P r K) (hk : ∀ v w, K v w → K' v w) : Res P r K' := by
  unfold Res at h ⊢
  split
  · exact hk _ _ h
  · exact hk _ _ h
  · exact h.mono fun e w'' ⟨v, he, hv⟩ => ⟨v, he, hk _ _ hv⟩
  · rename_i h1 h2 h3
    split at h
    · exact (h1 _ _ rfl).elim
    · exact (h2 _ rfl).elim
    · exact (h3 _ _ _ rfl).elim
    · exact h

theorem Res.wp {P : Program} {o : Oper} {a : Act} {w : World} {K : Value → World → Prop} {next : Act → World → Prop} {Q : Exit → Act → World → Prop} (h : Res P ((execOp a.eval o).run P w) K)
    (hk : ∀ v w', K v w' → next (a.put o.dst v) w') : o.wp P a w next Q := by
  unfold Oper.wp
  unfold Res at h
  split at h
  · rename_i heq; rw [heq]; exact hk _ _ h
  · rename_i heq; rw [heq]; exact hk _ _ h
  · rename_i heq
    rw [heq]
    simp only [Oper.upon]
    refine h.mono ?_
    rintro e w'' ⟨v, rfl, hv⟩
    exact hk _ _ hv
  · exact h.elim

/-- Contracts of functions that are taken by what they say. -/
def PrimSpec (C : Cfg) : Prop :=
  ∀ g p, C.prim g = some p → ∀ vs v, cleanL 0 vs = true → p vs = some v → v.clean 0 = true → ∀ (m : M) (w : World) (us : Array Value), Inv m [] w → VRelL m vs us.toList →
    Res C.P ((callFunc g us).run C.P w) (fun u w' => ∃ m', Step w.heap.size m [] w m' [] w' ∧ VRel m' v u)

structure CfgOk (C : Cfg) : Prop where
  prim : PrimSpec C
  body : ∀ f, C.mode f ≠ .no → ∃ fn c, C.P.funcs[f]? = some fn ∧ fn.body = some c ∧ fn.name ≠ "runtime.NumGoroutine"

theorem callFunc_enter {C : Cfg} (hC : CfgOk C) {g : FuncId} (hg : C.mode g ≠ .no) (us : Array Value) (w : World) : (callFunc g us).run C.P w = .ok (.enter g us) w := by
  obtain ⟨fn, c, h1, h2, h3⟩ := hC.body g hg
  simp [callFunc, h1, h2, h3]

/-- What is known without the small heap. -/
def M.bare (m : M) : M := ⟨m.F, fun _ => none, fun _ _ => none⟩

theorem bare_upto (m : M) : m.upto 0 = m.bare := by simp [M.upto, M.bare]

theorem Inv.bare {m : M} {h : Heap} {w : World} (hi : Inv m h w) : Inv m.bare [] w :=
  ⟨hi.f, hi.fone, fun i cs e => by simp at e, fun i j cs ds c e => by simp at e, fun i n sz e => by simp at e, fun i j n k sz tz a b ca cb e => by simp at e, fun i c e => by simp [M.bare] at e, fun i n r e => by simp [M.bare] at e,
    fun i n k sz r e => by simp at e⟩

theorem touch_bare {m : M} {c : Nat} : ¬ Touch m [] c := by
  rintro (⟨i, cs, e, _⟩ | ⟨i, n, sz, a, cap, e, _⟩) <;> simp at e

/-- A call that sees nothing of the small heap leaves it as it was. -/
theorem Step.pure {m : M} {h : Heap} {w : World} (hi : Inv m h w) {m1 : M} {h1 : Heap} {w1 : World} (s : Step w.heap.size m.bare [] w m1 h1 w1) :
    Step w.heap.size m h w ⟨m1.F, m.mu, m.rho⟩ h w1 := by
  have hF : ∀ a v, m1.F a = some v → m.F a = some v ∨ w.heap.size ≤ a.block := by
    intro a v e
    rcases s.fnew a v e with e | e | e
    · exact .inl e
    · exact (touch_bare e).elim
    · exact .inr e
  have hle : m.le ⟨m1.F, m.mu, m.rho⟩ := ⟨fun a v e => s.le.F a v e, fun _ _ e => e, fun _ _ _ e => e⟩
  have hold : ∀ c, c < w.heap.size → w1.heap[c]? = w.heap[c]? := fun c hc => s.frame c hc touch_bare
  refine ⟨hle, ⟨s.inv.f, s.inv.fone, ?_, hi.inj, ?_, hi.apart, hi.mu, hi.rho, hi.cur⟩, s.size, s.os, s.tape, s.output, fun c hc _ => hold c hc, fun _ e => .inl e, fun a v e => (hF a v e).imp id .inr⟩
  · intro i cs e
    obtain ⟨c, cvs, t, h1, h2, h3, h4, h5⟩ := hi.var i cs e
    have hc := (Array.getElem?_eq_some_iff.1 h2).1
    refine ⟨c, cvs, t, h1, by rw [hold c hc]; exact h2, VRelL.mono hle _ _ h3, fun a ha => ?_, h5⟩
    cases hf : m1.F a with
    | none => rfl
    | some v =>
      rcases hF a v hf with e | e
      · rw [h4 a ha] at e; cases e
      · omega
  · intro i n sz e
    obtain ⟨a, cap, h1, h2⟩ := hi.own i n sz e
    refine ⟨a, cap, h1, h2.spot, h2.le, fun j j1 j2 => ?_, Nat.lt_of_lt_of_le h2.lt s.size, h2.var⟩
    obtain ⟨⟨v, f1⟩, f2, f3⟩ := h2.cell j j1 j2
    have hb := hold a.block h2.lt
    refine ⟨⟨v, by rw [World.cell?_of_block (a := ⟨a.block, a.off + j, none⟩) hb]; exact f1⟩, by rw [World.frozen?_of_block (a := ⟨a.block, a.off + j, none⟩) hb]; exact f2, ?_⟩
    cases hf : m1.F ⟨a.block, a.off + j, none⟩ with
    | none => rfl
    | some v =>
      rcases hF _ v hf with e | e
      · rw [f3] at e; cases e
      · have := h2.lt; simp at e; omega

/-- A value without traces of the small heap. -/
theorem VRel.bare {m : M} {x : AV} {v : Value} (hc : x.strip.clean 0 = true) (h : VRel m x v) : VRel m.bare x.strip v := by
  rw [← bare_upto]
  exact VRel.upto _ _ hc (VRel.strip _ _ h)
theorem VRelL.bare {m : M} {x : List AV} {v : List Value} (hc : cleanL 0 (stripL x) = true) (h : VRelL m x v) : VRelL m.bare (stripL x) v := by
  rw [← bare_upto]
  exact VRelL.upto _ _ hc (VRelL.strip _ _ h)
theorem M.bare_le (F : Addr → Option Value) (m : M) : (⟨F, fun _ => none, fun _ _ => none⟩ : M).le ⟨F, m.mu, m.rho⟩ := ⟨fun _ _ e => e, fun _ _ e => (by cases e), fun _ _ _ e => (by cases e)⟩

theorem callF_ok {C : Cfg} (hC : CfgOk C) {call : CallFn} (hcall : CallSpec C.P call) {g : FuncId} {vs : List AV} {h h' : Heap} {d d' : Bool} {v : AV} (he : callF C call g vs h d = some (v, h', d'))
    {m : M} {w : World} (hi : Inv m h w) {us : Array Value} (hr : VRelL m vs us.toList) :
    Res C.P ((callFunc g us).run C.P w) (fun u w' => ∃ m', Step w.heap.size m h w m' h' w' ∧ VRel m' v u) ∧ h.length ≤ h'.length ∧ (d' = false → d = false ∧ ∀ i, i < h.length → h'[i]? = h[i]?) := by
  unfold callF at he
  split at he
  · rename_i p hp
    split at he
    · rename_i hcl
      cases hq : p (stripL vs) with
      | none => simp [hq] at he
      | some q =>
        simp only [hq, Option.bind_some] at he
        split at he
        · rename_i hqc
          simp only [Option.some.injEq, Prod.mk.injEq] at he
          obtain ⟨rfl, rfl, rfl⟩ := he
          refine ⟨?_, Nat.le_refl _, fun e => ⟨e, fun _ _ => rfl⟩⟩
          have := hC.prim g p hp _ q hcl hq hqc m.bare w us hi.bare (VRelL.bare hcl hr)
          refine this.mono ?_
          rintro u w' ⟨m1, s, hv⟩
          refine ⟨_, Step.pure hi s, ?_⟩
          have h1 : VRel (m1.upto 0) q u := VRel.upto _ _ hqc hv
          rw [bare_upto] at h1
          exact VRel.mono (M.bare_le m1.F m) _ _ h1
        · cases he
    · cases he
  · split at he
    · rename_i hmode
      split at he
      · rename_i hcl
        split at he
        · rename_i q h1 d1 hq
          split at he
          · rename_i hqc
            simp only [Option.some.injEq, Prod.mk.injEq] at he
            obtain ⟨rfl, rfl, rfl⟩ := he
            refine ⟨?_, Nat.le_refl _, fun e => ⟨e, fun _ _ => rfl⟩⟩
            rw [callFunc_enter hC (by rw [hmode]; simp)]
            simp only [Res]
            obtain ⟨k1, _, _⟩ := hcall g _ _ _ _ _ hq m.bare w us hi.bare (VRelL.bare hcl hr)
            refine k1.mono ?_
            rintro e w'' ⟨u, rfl, m1, s, hv⟩
            refine ⟨u, rfl, _, Step.pure hi s, ?_⟩
            exact VRel.mono (M.bare_le m1.F m) _ _ (VRel.bare hqc hv)
          · cases he
        · cases he
      · cases he
    · rename_i hmode
      split at he
      · rename_i q h1 d1 hq
        simp only [Option.some.injEq, Prod.mk.injEq] at he
        obtain ⟨rfl, rfl, rfl⟩ := he
        obtain ⟨k1, k2, k3⟩ := hcall g _ _ _ _ _ hq m w us hi hr
        refine ⟨?_, k2, fun e => ?_⟩
        · rw [callFunc_enter hC (by rw [hmode]; simp)]
          simp only [Res]
          exact k1
        · simp only [Bool.or_eq_false_iff] at e
          exact ⟨e.1, k3 e.2⟩
      · cases he
    · cases he

end Go.Proofs.Ytnifldbmflkmpaa.Ev

/-
  A whole operation; regions, in the text's order.
-/
namespace Go.Proofs.Ytnifldbmflkmpaa.Ev
open Go
set_option linter.unusedVariables false
set_option linter.unusedSimpArgs false

/-- What an operation must give. -/
def OpOk (P : Program) (base : Nat) (m : M) (h : Heap) (w : World) (d : Bool) (r : Result Next) (v : AV) (h' : Heap) (d' : Bool) : Prop :=
  Res P r (fun u w' => ∃ m', Step w.heap.size m h w m' h' w' ∧ VRel m' v u) ∧ h.length ≤ h'.length ∧ (d' = false → d = false ∧ ∀ i, i < base → h'[i]? = h[i]?)

theorem OpOk.still {P : Program} {base : Nat} {m : M} {h : Heap} {w : World} {d : Bool} {v : AV} {u : Value} (hi : Inv m h w) (hv : VRel m v u) : OpOk P base m h w d (.ok (.value u) w) v h d :=
  ⟨⟨m, Step.refl hi, hv⟩, Nat.le_refl _, fun e => ⟨e, fun _ _ => rfl⟩⟩

theorem mapM_rel {m : M} {ρ : Operand → Option AV} {ρc : Operand → Value} (hρ : ∀ x v, ρ x = some v → VRel m v (ρc x)) : ∀ (l : List Operand) (vs : List AV), l.mapM ρ = some vs → VRelL m vs (l.map ρc)
  | [], vs, h => by simp at h; subst h; exact .nil
  | x :: l, vs, h => by
    rw [List.mapM_cons] at h
    cases hx : ρ x with
    | none => simp [hx] at h
    | some v =>
      cases hl : l.mapM ρ with
      | none => simp [hx, hl] at h
      | some us =>
        simp [hx, hl] at h
        subst h
        exact .cons (hρ x v hx) (mapM_rel hρ l us hl)
theorem mapM_parts {m : M} {ρ : Operand → Option AV} {ρc : Operand → Value} (hρ : ∀ x v, ρ x = some v → VRel m v (ρc x)) : ∀ (l : List (Nat × Operand)) (ps : List (Nat × AV)),
    l.mapM (fun p => (ρ p.2).map fun v => (p.1, v)) = some ps → PRel m ps (l.map fun p => (p.1, ρc p.2))
  | [], ps, h => by simp at h; subst h; simp [PRel]
  | (i, x) :: l, ps, h => by
    rw [List.mapM_cons] at h
    cases hx : ρ x with
    | none => simp [hx] at h
    | some v =>
      cases hl : l.mapM (fun p => (ρ p.2).map fun v => (p.1, v)) with
      | none => simp [hx, hl] at h
      | some us =>
        simp [hx, hl] at h
        subst h
        simp only [List.map_cons, PRel]
        exact ⟨ρc x, _, rfl, hρ x v hx, mapM_parts hρ l us hl⟩
theorem mapM_opt {m : M} {ρ : Operand → Option AV} {ρc : Operand → Value} (hρ : ∀ x v, ρ x = some v → VRel m v (ρc x)) {o : Option Operand} {r : Option AV} (h : o.mapM ρ = some r) : ORel m r (o.map ρc) := by
  cases o with
  | none => simp at h; subst h; simp [ORel]
  | some x =>
    cases hx : ρ x with
    | none => simp [hx] at h
    | some v => simp [hx] at h; subst h; simpa [ORel] using hρ x v hx

theorem append_dirty {wr : Option Nat} {base : Nat} {h h' : Heap} (hb : base ≤ h.length) (hk : ∀ i, wr ≠ some i → i < h.length → h'[i]? = h[i]?)
    (hd : wrDirty base wr = false) : ∀ i, i < base → h'[i]? = h[i]? := by
  intro i hi
  refine hk i ?_ (by omega)
  rintro rfl
  simp [wrDirty] at hd
  omega

set_option maxHeartbeats 1000000 in
theorem evalOp_ok {C : Cfg} (hC : CfgOk C) {call : CallFn} (hcall : CallSpec C.P call) {base : Nat} {o : Oper} {ρ : Operand → Option AV} {h h' : Heap} {d d' : Bool} {v : AV}
    (he : evalOp C call base o ρ h d = some (v, h', d')) {m : M} {w : World} (hi : Inv m h w) (hb : base ≤ h.length) {ρc : Operand → Value} (hρ : ∀ x v, ρ x = some v → VRel m v (ρc x)) :
    OpOk C.P base m h w d ((execOp ρc o).run C.P w) v h' d' := by
  unfold evalOp at he
  simp only at he
  unfold execOp
  split at he
  · rename_i x ho
    simp only [ho]
    cases hx : ρ x with
    | none => simp [hx] at he
    | some u =>
      simp only [hx, Option.map_some, Option.some.injEq, Prod.mk.injEq] at he
      obtain ⟨rfl, rfl, rfl⟩ := he
      exact OpOk.still hi (hρ x _ hx)
  · rename_i x ho
    simp only [ho]
    cases hx : ρ x with
    | none => simp [hx] at he
    | some u =>
      simp only [hx, Option.map_some, Option.some.injEq, Prod.mk.injEq] at he
      obtain ⟨rfl, rfl, rfl⟩ := he
      exact OpOk.still hi (hρ x _ hx)
  · rename_i c a b ho
    simp only [ho]
    split at he
    · rename_i hc
      have hc' := (hρ c _ hc).bool'
      cases hx : ρ a with
      | none => simp [hx] at he
      | some u =>
        simp only [hx, Option.map_some, Option.some.injEq, Prod.mk.injEq] at he
        obtain ⟨rfl, rfl, rfl⟩ := he
        simp only [hc', asBool, Sem.run_bind, Sem.run_pure, Result.andThen_ok]
        exact OpOk.still hi (hρ a _ hx)
    · rename_i hc
      have hc' := (hρ c _ hc).bool'
      cases hx : ρ b with
      | none => simp [hx] at he
      | some u =>
        simp only [hx, Option.map_some, Option.some.injEq, Prod.mk.injEq] at he
        obtain ⟨rfl, rfl, rfl⟩ := he
        simp only [hc', asBool, Sem.run_bind, Sem.run_pure, Result.andThen_ok]
        exact OpOk.still hi (hρ b _ hx)
    · cases he
  · rename_i t ho
    simp only [ho]
    split at he
    · rename_i z hz
      split at he
      · rename_i hone
        simp only [Option.some.injEq, Prod.mk.injEq] at he
        obtain ⟨rfl, rfl, rfl⟩ := he
        obtain ⟨i, zv, q1, q2, q3⟩ := tyZero_spec hz
        obtain ⟨m', k1, k2, k3⟩ := newVar_ok hi (q3 m) hone t C.P
        simp only [Instr.alloc, Sem.run_bind, run_zeroValue' q1 q2, Result.andThen_ok, k1, Sem.run_pure]
        exact ⟨⟨m', k2, k3⟩, by simp, fun e => ⟨e, fun i hi' => by rw [List.getElem?_append_left (by omega)]⟩⟩
      · cases he
    · cases he
  · rename_i t x ho
    simp only [ho]
    split at he
    · rename_i u hx
      split at he
      · rename_i hone
        simp only [Option.some.injEq, Prod.mk.injEq] at he
        obtain ⟨rfl, rfl, rfl⟩ := he
        obtain ⟨m', k1, k2, k3⟩ := newVar_ok hi (hρ x _ hx) hone t C.P
        simp only [Instr.box, Sem.run_bind, Result.andThen_ok, k1, Sem.run_pure]
        exact ⟨⟨m', k2, k3⟩, by simp, fun e => ⟨e, fun i hi' => by rw [List.getElem?_append_left (by omega)]⟩⟩
      · cases he
    · cases he
  · rename_i t parts ho
    simp only [ho]
    split at he
    · rename_i ps hps
      cases hz : buildA C.P t ps with
      | none => simp [hz] at he
      | some z =>
        simp only [hz, Option.map_some, Option.some.injEq, Prod.mk.injEq] at he
        obtain ⟨rfl, rfl, rfl⟩ := he
        obtain ⟨r, k1, k2⟩ := buildA_ok (P := C.P) (m := m) (w := w) (cparts := parts.map fun (i, x) => (i, ρc x)) hz (by simpa using mapM_parts hρ _ _ hps)
        simp only [Sem.run_bind, Result.andThen_ok, k1, Sem.run_pure]
        exact OpOk.still hi k2
    · cases he
  · rename_i t n parts ho
    simp only [ho]
    split at he
    · rename_i ps hps
      cases hz : buildSliceA C.P t n ps with
      | none => simp [hz] at he
      | some z =>
        cases hf : freshB C.P t n with
        | false =>
          simp only [hz, hf, Bool.false_eq_true, if_false, Option.map_some, Option.some.injEq, Prod.mk.injEq] at he
          obtain ⟨rfl, rfl, rfl⟩ := he
          obtain ⟨r, w', m', k1, k2, k3⟩ := buildSliceA_ok (P := C.P) hi (cparts := parts.map fun (i, x) => (i, ρc x)) hz (by simpa using mapM_parts hρ _ _ hps)
          simp only [Sem.run_bind, Result.andThen_ok, k1, Sem.run_pure]
          exact ⟨⟨m', k2, k3⟩, Nat.le_refl _, fun e => ⟨e, fun _ _ => rfl⟩⟩
        | true =>
          simp only [hz, hf, if_true, Option.map_some, Option.some.injEq, Prod.mk.injEq] at he
          obtain ⟨rfl, rfl, rfl⟩ := he
          obtain ⟨r, w', m', k1, k2, k3⟩ := buildSliceT_ok (P := C.P) hi (cparts := parts.map fun (i, x) => (i, ρc x)) hf hz (by simpa using mapM_parts hρ _ _ hps)
          simp only [Sem.run_bind, Result.andThen_ok, k1, Sem.run_pure]
          exact ⟨⟨m', k2, k3⟩, by simp, fun e => ⟨e, fun i hi => by rw [List.getElem?_append_left (by omega)]⟩⟩
    · cases he
  · rename_i t a ho
    simp only [ho]
    split at he
    · rename_i x hx
      cases hz : loadA C.P t h x with
      | none => simp [hz] at he
      | some z =>
        simp only [hz, Option.map_some, Option.some.injEq, Prod.mk.injEq] at he
        obtain ⟨rfl, rfl, rfl⟩ := he
        obtain ⟨r, k1, k2⟩ := loadA_ok (P := C.P) hi (hρ a _ hx) hz
        simp only [Sem.run_bind, Result.andThen_ok, k1, Sem.run_pure]
        exact OpOk.still hi k2
    · cases he
  · rename_i t a x ho
    simp only [ho]
    split at he
    · rename_i xa xv ha hx
      cases hz : storeA C.P t h xa xv with
      | none => simp [hz] at he
      | some q =>
        obtain ⟨h1, b⟩ := q
        simp only [hz, Option.map_some, Option.some.injEq, Prod.mk.injEq] at he
        obtain ⟨rfl, rfl, rfl⟩ := he
        obtain ⟨w', k1, k2, k3⟩ := storeA_ok (P := C.P) hi hz (hρ a _ ha) (hρ x _ hx)
        simp only [Sem.run_bind, Result.andThen_ok, k1, Sem.run_pure]
        refine ⟨⟨m, k2, VRel.undef⟩, by rw [k3]; simp, fun e => ?_⟩
        simp only [Bool.or_eq_false_iff, decide_eq_false_iff_not] at e
        refine ⟨e.1, fun i hi' => ?_⟩
        rw [k3, List.getElem?_set_ne (by omega)]
    · cases he
  · rename_i x ho
    simp only [ho]
    split at he
    · rename_i b oo hx
      simp only [Option.some.injEq, Prod.mk.injEq] at he
      obtain ⟨rfl, rfl, rfl⟩ := he
      have := hρ x _ hx
      have h2 := this
      simp only [VRel] at this
      obtain ⟨c, _, e⟩ := this
      rw [e] at h2 ⊢
      exact OpOk.still hi h2
    · rename_i y hx
      simp only [Option.some.injEq, Prod.mk.injEq] at he
      obtain ⟨rfl, rfl, rfl⟩ := he
      have := hρ x _ hx
      have h2 := this
      simp only [VRel] at this
      obtain ⟨c, cv, e, _⟩ := this
      rw [e] at h2 ⊢
      exact OpOk.still hi h2
    · rename_i f a b hx
      simp only [Option.some.injEq, Prod.mk.injEq] at he
      obtain ⟨rfl, rfl, rfl⟩ := he
      have := hρ x _ hx
      have h2 := this
      simp only [VRel] at this
      obtain ⟨xs, ys, e, _⟩ := this
      rw [e] at h2 ⊢
      exact OpOk.still hi h2
    · cases he
  · rename_i op t x y ty ho
    simp only [ho]
    split at he
    · rename_i a b ha hb'
      cases hz : binA C.P op t a b with
      | none => simp [hz] at he
      | some z =>
        simp only [hz, Option.map_some, Option.some.injEq, Prod.mk.injEq] at he
        obtain ⟨rfl, rfl, rfl⟩ := he
        obtain ⟨r, k1, k2⟩ := binA_ok (P := C.P) (w := w) hz (hρ x _ ha) (hρ y _ hb')
        have k0 := eqGuard_run (P := C.P) (w := w) op t x y hz (hρ x _ ha) (v := ρc y)
        simp only [Sem.run_bind, Result.andThen_ok, k0, k1, Sem.run_pure]
        exact OpOk.still hi k2
    · cases he
  · rename_i op t x ho
    simp only [ho]
    split at he
    · rename_i a ha
      cases hz : unA op a with
      | none => simp [hz] at he
      | some z =>
        simp only [hz, Option.map_some, Option.some.injEq, Prod.mk.injEq] at he
        obtain ⟨rfl, rfl, rfl⟩ := he
        obtain ⟨r, k1, k2⟩ := unA_ok (P := C.P) (w := w) hz (hρ x _ ha)
        simp only [Sem.run_bind, Result.andThen_ok, k1, Sem.run_pure]
        exact OpOk.still hi k2
    · cases he
  · rename_i s t x ho
    simp only [ho]
    split at he
    · rename_i a ha
      cases hz : convA C.P s t h a with
      | none => simp [hz] at he
      | some q =>
        obtain ⟨z, h1⟩ := q
        simp only [hz, Option.map_some, Option.some.injEq, Prod.mk.injEq] at he
        obtain ⟨rfl, rfl, rfl⟩ := he
        obtain ⟨r, w', m', k1, k2, k3⟩ := convA_ok (P := C.P) hi hz (hρ x _ ha)
        simp only [Sem.run_bind, Result.andThen_ok, k1, Sem.run_pure]
        have hgrow : h1 = h ∨ ∃ o, h1 = h ++ [o] := convA_heap hz
        refine ⟨⟨m', k2, k3⟩, ?_, fun e => ⟨e, fun i hi' => ?_⟩⟩
        · rcases hgrow with rfl | ⟨o, rfl⟩ <;> simp
        · rcases hgrow with rfl | ⟨o, rfl⟩
          · rfl
          · rw [List.getElem?_append_left (by omega)]
    · cases he
  · rename_i t x ho
    simp only [ho]
    split at he
    · cases he
    · rename_i a dd hni ha hdd
      simp only [Option.some.injEq, Prod.mk.injEq] at he
      obtain ⟨rfl, rfl, rfl⟩ := he
      have hrun : (Instr.makeInterface t (ρc x)).run C.P w = .ok (.iface t (ρc x)) w := by
        cases dd <;> first | (exact (hni _ rfl).elim) | (simp [Instr.makeInterface, run_underlying hdd])
      simp only [Sem.run_bind, Result.andThen_ok, hrun, Sem.run_pure]
      exact OpOk.still hi (by simp only [VRel]; exact ⟨_, rfl, hρ x _ ha⟩)
    · cases he
  · rename_i fn first captured ho
    simp only [ho]
    split at he
    · rename_i a b ha hb'
      simp only [Option.some.injEq, Prod.mk.injEq] at he
      obtain ⟨rfl, rfl, rfl⟩ := he
      simp only [Instr.makeFunc, Sem.run_bind, Result.andThen_ok, Sem.run_pure]
      refine OpOk.still hi ?_
      simp only [VRel]
      exact ⟨_, _, rfl, by simpa using mapM_rel hρ _ _ ha, by simpa using mapM_rel hρ _ _ hb'⟩
    · cases he
  · rename_i t l c ho
    simp only [ho]
    split at he
    · rename_i a b ha hb'
      cases hz : makeSliceA C.P t h a b with
      | none => simp [hz] at he
      | some q =>
        obtain ⟨z, h1⟩ := q
        simp only [hz, Option.map_some, Option.some.injEq, Prod.mk.injEq] at he
        obtain ⟨rfl, rfl, rfl⟩ := he
        obtain ⟨r, w', m', k1, k2, k3, ob, rfl⟩ := makeSliceA_ok (P := C.P) hi hz (hρ l _ ha) (hρ c _ hb')
        simp only [Sem.run_bind, Result.andThen_ok, k1, Sem.run_pure]
        exact ⟨⟨m', k2, k3⟩, by simp, fun e => ⟨e, fun i hi' => by rw [List.getElem?_append_left (by omega)]⟩⟩
    · cases he
  · rename_i t x lo hi' mx ho
    simp only [ho]
    split at he
    · rename_i a l1 h1 m1 ha hl hh hm
      cases hz : sliceA C.P t a l1 h1 m1 with
      | none => simp [hz] at he
      | some z =>
        simp only [hz, Option.map_some, Option.some.injEq, Prod.mk.injEq] at he
        obtain ⟨rfl, rfl, rfl⟩ := he
        obtain ⟨r, k1, k2⟩ := sliceA_ok (P := C.P) (w := w) hz (hρ x _ ha) (mapM_opt hρ hl) (mapM_opt hρ hh) (mapM_opt hρ hm)
        simp only [Sem.run_bind, Result.andThen_ok, k1, Sem.run_pure]
        exact OpOk.still hi k2
    · cases he
  · rename_i t x f ho
    simp only [ho]
    split at he
    · rename_i a ha
      cases hz : fieldAddrA C.P t a f with
      | none => simp [hz] at he
      | some z =>
        simp only [hz, Option.map_some, Option.some.injEq, Prod.mk.injEq] at he
        obtain ⟨rfl, rfl, rfl⟩ := he
        obtain ⟨r, k1, k2⟩ := fieldAddrA_ok (P := C.P) (w := w) hz (hρ x _ ha)
        simp only [Sem.run_bind, Result.andThen_ok, k1, Sem.run_pure]
        exact OpOk.still hi k2
    · cases he
  · rename_i t x f ho
    simp only [ho]
    split at he
    · rename_i a ha
      cases hz : fieldA C.P t a f with
      | none => simp [hz] at he
      | some z =>
        simp only [hz, Option.map_some, Option.some.injEq, Prod.mk.injEq] at he
        obtain ⟨rfl, rfl, rfl⟩ := he
        obtain ⟨r, k1, k2⟩ := fieldA_ok (P := C.P) (w := w) hz (hρ x _ ha)
        simp only [Sem.run_bind, Result.andThen_ok, k1, Sem.run_pure]
        exact OpOk.still hi k2
    · cases he
  · rename_i t x ix ho
    simp only [ho]
    split at he
    · rename_i a b ha hb'
      cases hz : indexAddrA C.P t a b with
      | none => simp [hz] at he
      | some z =>
        simp only [hz, Option.map_some, Option.some.injEq, Prod.mk.injEq] at he
        obtain ⟨rfl, rfl, rfl⟩ := he
        obtain ⟨r, k1, k2⟩ := indexAddrA_ok (P := C.P) (w := w) hz (hρ x _ ha) (hρ ix _ hb')
        simp only [Sem.run_bind, Result.andThen_ok, k1, Sem.run_pure]
        exact OpOk.still hi k2
    · cases he
  · rename_i t x ix ho
    simp only [ho]
    split at he
    · rename_i a b ha hb'
      cases hz : indexA C.P t a b with
      | none => simp [hz] at he
      | some z =>
        simp only [hz, Option.map_some, Option.some.injEq, Prod.mk.injEq] at he
        obtain ⟨rfl, rfl, rfl⟩ := he
        obtain ⟨r, k1, k2⟩ := indexA_ok (P := C.P) (w := w) hz (hρ x _ ha) (hρ ix _ hb')
        simp only [Sem.run_bind, Result.andThen_ok, k1, Sem.run_pure]
        exact OpOk.still hi k2
    · cases he
  · rename_i t i ho
    simp only [ho]
    split at he
    · rename_i vs ha
      cases hz : vs[i]? with
      | none => simp [hz] at he
      | some z =>
        simp only [hz, Option.map_some, Option.some.injEq, Prod.mk.injEq] at he
        obtain ⟨rfl, rfl, rfl⟩ := he
        have hx := hρ t _ ha
        simp only [VRel] at hx
        obtain ⟨us, e, hr⟩ := hx
        obtain ⟨u, hu, hv⟩ := hr.get hz
        have hu' : us[i]? = some u := by simpa using hu
        simp only [e, Instr.extract, hu', Sem.run_bind, Result.andThen_ok, Sem.run_pure]
        exact OpOk.still hi hv
    · cases he
  · rename_i c ho
    simp only [ho]
    split at he
    · rename_i vs hvs
      have hargs : VRelL m vs (c.args.map ρc).toList := by simpa using mapM_rel hρ _ _ hvs
      split at he
      · rename_i b hcb
        simp only [resolve, hcb, Sem.run_bind, Sem.run_pure, Result.andThen_ok, invoke, builtin]
        split at he
        · rename_i bb ats vs0 t trest x rest hats
          cases hz : lenA C.P t x with
          | none => simp [hz] at he
          | some z =>
            simp only [hz, Option.map_some, Option.some.injEq, Prod.mk.injEq] at he
            obtain ⟨rfl, rfl, rfl⟩ := he
            obtain ⟨u, hu, hx⟩ := hargs.get (i := 0) (x := x) (by simp)
            have ht : c.argTypes[0]? = some t := by rw [← Array.getElem?_toList, hats]; rfl
            obtain ⟨r, k1, k2⟩ := lenA_ok (P := C.P) (w := w) (ty := o.type) ht hz (us := c.args.map ρc) (by rw [← Array.getElem?_toList]; exact hu) hx
            simp only [Sem.run_bind, k1, Result.andThen_ok, Sem.run_pure]
            exact OpOk.still hi k2
        · obtain ⟨z, hz, he⟩ := Option.map_eq_some_iff.1 he
          · simp only [Prod.mk.injEq] at he
            obtain ⟨rfl, rfl, rfl⟩ := he
            obtain ⟨r, k1, k2⟩ := minsA_ok (P := C.P) (w := w) (ts := c.argTypes) (ty := o.type) true hz hargs
            simp only [if_true] at k1
            simp only [Sem.run_bind, k1, Result.andThen_ok, Sem.run_pure]
            exact OpOk.still hi k2
        · obtain ⟨z, hz, he⟩ := Option.map_eq_some_iff.1 he
          · simp only [Prod.mk.injEq] at he
            obtain ⟨rfl, rfl, rfl⟩ := he
            obtain ⟨r, k1, k2⟩ := minsA_ok (P := C.P) (w := w) (ts := c.argTypes) (ty := o.type) false hz hargs
            simp only [if_false, Bool.false_eq_true] at k1
            simp only [Sem.run_bind, k1, Result.andThen_ok, Sem.run_pure]
            exact OpOk.still hi k2
        · rename_i ts x y
          cases hz : appendA C.P c.argTypes.toList h x y with
          | none => simp [hz] at he
          | some q =>
            obtain ⟨z, h1, wr⟩ := q
            simp only [hz, Option.map_some, Option.some.injEq, Prod.mk.injEq] at he
            obtain ⟨rfl, rfl, rfl⟩ := he
            simp only [VRelL] at hargs
            obtain ⟨u, us, e1, hx, v', vs', e2, hy, e3⟩ := hargs
            have hca : c.args.map ρc = #[u, v'] := by apply Array.ext'; rw [e1, e2, e3]
            obtain ⟨⟨r, w', m', k1, k2, k3⟩, k4, k5⟩ := appendA_ok (P := C.P) hi (ty := o.type) hz hx hy
            rw [hca]
            simp only [Sem.run_bind, k1, Result.andThen_ok, Sem.run_pure]
            refine ⟨⟨m', k2, k3⟩, k5, fun e => ?_⟩
            simp only [Bool.or_eq_false_iff] at e
            exact ⟨e.1, append_dirty hb k4 e.2⟩
        · cases he
      · rename_i f hcb
        split at he
        · rename_i g first captured hf
          have hx := hρ f _ hf
          simp only [VRel] at hx
          obtain ⟨xs, ys, e, h1, h2⟩ := hx
          simp only [resolve, hcb, e, Deferred.ofValue, Sem.run_bind, Sem.run_pure, Result.andThen_ok, invoke]
          have hall : VRelL m (first ++ vs ++ captured) (xs ++ c.args.map ρc ++ ys).toList := by
            simp only [Array.toList_append]
            exact (h1.append hargs).append h2
          obtain ⟨k1, k2, k3⟩ := callF_ok hC hcall he hi hall
          exact ⟨k1, k2, fun e => ⟨(k3 e).1, fun i hi' => (k3 e).2 i (by omega)⟩⟩
        · cases he
      · cases he
    · cases he
  · cases he

/-- A frame of the model lies as the evaluator's state says. -/
structure StRel (m : M) (st : St) (a : Act) (w : World) : Prop where
  inv : Inv m st.h w
  fr : VRelL m st.fr a.tmps.toList
  defers : a.defers = []

theorem StRel.eval {m : M} {st : St} {a : Act} {w : World} (h : StRel m st a w) : ∀ x v, evalOperand st.fr x = some v → VRel m v (a.eval x) := by
  intro x v hx
  cases x with
  | tmp t =>
    simp only [evalOperand] at hx
    obtain ⟨u, hu, hv⟩ := h.fr.get hx
    have hu' : a.tmps[t]? = some u := by simpa using hu
    simp only [Act.eval, Array.getD_eq_getD_getElem?, hu', Option.getD_some]
    exact hv
  | const c => exact ofConst_rel hx
  | global g => cases hx
  | func f =>
    simp only [evalOperand, Option.some.injEq] at hx
    subst hx
    simp only [Act.eval, VRel]
    exact ⟨#[], #[], rfl, .nil, .nil⟩

theorem StRel.put {m : M} {st : St} {a : Act} {w : World} {v : AV} {u : Value} (h : StRel m st a w) (hv : VRel m v u) (dst : Option Tmp) : StRel m (st.put dst v) (a.put dst u) w := by
  cases dst with
  | none => exact h
  | some t =>
    refine ⟨h.inv, ?_, h.defers⟩
    simp only [St.put, Act.put, Array.toList_setIfInBounds]
    exact h.fr.set hv t

theorem yielded_rel {m : M} {st : St} {a : Act} {w : World} (h : StRel m st a w) (ops : Array Oper) (o : Oper) (hw : Region.wanted o (yieldedA ops st.fr) = true) : Region.wanted o (yielded ops a.tmps) = true := by
  unfold Region.wanted at hw ⊢
  cases hg : o.guard with
  | none => rfl
  | some p =>
    obtain ⟨j, want⟩ := p
    simp only [hg, beq_iff_eq] at hw ⊢
    unfold yieldedA at hw
    unfold yielded
    cases hd : ((ops[j]?).bind (·.dst)) with
    | none => simp [hd] at hw
    | some t =>
      simp only [hd, Option.bind_some] at hw ⊢
      split at hw
      · rename_i b hb
        obtain ⟨u, hu, hv⟩ := h.fr.get hb
        have hu' : a.tmps[t]? = some u := by simpa using hu
        rw [hu', hv.bool']
        exact hw
      · cases hw

/-- Slots that hold a test's answer hold it in both. -/
theorem yielded_eq {m : M} {st : St} {a : Act} {w : World} (h : StRel m st a w) (ops : Array Oper) (j : Nat) : yielded ops a.tmps j = yieldedA ops st.fr j := by
  unfold yieldedA yielded
  cases hd : ((ops[j]?).bind (·.dst)) with
  | none => simp
  | some t =>
    simp only [Option.bind_some]
    cases hx : st.fr[t]? with
    | none =>
      have hl := h.fr.length
      have : a.tmps[t]? = none := by
        rw [List.getElem?_eq_none_iff] at hx
        apply Array.getElem?_eq_none
        simp at hl
        omega
      rw [this]
    | some x =>
      obtain ⟨u, hu, hv⟩ := h.fr.get hx
      have hu' : a.tmps[t]? = some u := by simpa using hu
      rw [hu']
      cases x with
      | bool b => rw [hv.bool']
      | list xs nn cap tok => simp only [VRel] at hv; rcases hv with ⟨_, _, _, _, rfl⟩ | ⟨_, _, _, _, rfl, _⟩ <;> rfl
      | _ =>
        simp only [VRel] at hv
        first
          | (subst hv; rfl)
          | (obtain ⟨_, rfl, _⟩ := hv; rfl)
          | (obtain ⟨_, _, rfl⟩ := hv; rfl)
          | (obtain ⟨_, _, rfl, _⟩ := hv; rfl)
          | (obtain ⟨_, rfl⟩ := hv; rfl)
theorem wanted_eq {m : M} {st : St} {a : Act} {w : World} (h : StRel m st a w) (ops : Array Oper) (o : Oper) : Region.wanted o (yielded ops a.tmps) = Region.wanted o (yieldedA ops st.fr) := by
  have : yielded ops a.tmps = yieldedA ops st.fr := funext fun j => yielded_eq h ops j
  rw [this]

/-- From one state of a frame to a later one. -/
structure StStep (base B : Nat) (m : M) (st : St) (w : World) (m' : M) (st' : St) (a' : Act) (w' : World) : Prop where
  rel : StRel m' st' a' w'
  step : Step B m st.h w m' st'.h w'
  len : st.h.length ≤ st'.h.length
  clean : st'.d = false → st.d = false ∧ ∀ i, i < base → st'.h[i]? = st.h[i]?

theorem StStep.trans {base B : Nat} {m m1 m2 : M} {st st1 st2 : St} {a1 a2 : Act} {w w1 w2 : World} (s : StStep base B m st w m1 st1 a1 w1) (t : StStep base B m1 st1 w1 m2 st2 a2 w2) : StStep base B m st w m2 st2 a2 w2 :=
  ⟨t.rel, s.step.trans t.step, Nat.le_trans s.len t.len, fun e => ⟨(s.clean (t.clean e).1).1, fun i hi => ((t.clean e).2 i hi).trans ((s.clean (t.clean e).1).2 i hi)⟩⟩

theorem stepOp_ok {C : Cfg} (hC : CfgOk C) {call : CallFn} (hcall : CallSpec C.P call) {base B : Nat} {ops : Array Oper} {o : Oper} {st st' : St} (he : stepOp C call base ops o st = some st')
    {m : M} {a : Act} {w : World} (h : StRel m st a w) (hb : base ≤ st.h.length) (hB : B ≤ w.heap.size) {K : Act → World → Prop} {Q : Exit → Act → World → Prop}
    (hk : ∀ m' a' w', StStep base B m st w m' st' a' w' → K a' w') :
    if Region.wanted o (yielded ops a.tmps) then o.wp C.P a w K Q else K (a.put o.dst undef) w := by
  rw [wanted_eq h]
  unfold stepOp at he
  split at he
  · rename_i hw
    rw [if_pos hw]
    split at he
    · rename_i v h1 d1 hev
      simp only [Option.some.injEq] at he
      subst he
      obtain ⟨k1, k2, k3⟩ := evalOp_ok hC hcall hev h.inv hb h.eval
      refine k1.wp ?_
      rintro u w' ⟨m', s, hv⟩
      refine hk m' _ _ ⟨?_, ?_, ?_, ?_⟩
      · have : StRel m' ⟨st.fr, h1, d1⟩ a w' := ⟨s.inv, VRelL.mono s.le _ _ h.fr, h.defers⟩
        exact this.put hv o.dst
      · have := s.mono hB
        cases o.dst <;> exact this
      · cases o.dst <;> exact k2
      · intro e
        have e' : d1 = false := by cases hd : o.dst <;> simpa [St.put, hd] using e
        obtain ⟨c1, c2⟩ := k3 e'
        refine ⟨c1, fun i hi => ?_⟩
        have := c2 i hi
        cases hd : o.dst <;> simpa [St.put, hd] using this
    · cases he
  · rename_i hw
    rw [if_neg hw]
    simp only [Option.some.injEq] at he
    subst he
    refine hk m _ _ ⟨h.put VRel.undef o.dst, ?_, ?_, ?_⟩
    · have := Step.refl (B := B) h.inv
      cases hd : o.dst <;> simpa [St.put, hd] using this
    · cases o.dst <;> exact Nat.le_refl _
    · intro e
      cases hd : o.dst <;> (simp only [St.put, hd] at e ⊢; refine ⟨e, ?_⟩; intros; first | rfl | trivial)

end Go.Proofs.Ytnifldbmflkmpaa.Ev

/-
  Regions whose order is drawn: the text's order serves every order.
-/
namespace Go.Proofs.Ytnifldbmflkmpaa.Ev
open Go
set_option linter.unusedVariables false
set_option linter.unusedSimpArgs false

theorem list_mapM_congr {α β : Type} {f g : α → Option β} : ∀ (l : List α), (∀ x ∈ l, f x = g x) → l.mapM f = l.mapM g
  | [], _ => rfl
  | x :: l, h => by rw [List.mapM_cons, List.mapM_cons, h x (by simp), list_mapM_congr l (fun y hy => h y (by simp [hy]))]

theorem evalOp_congr {C : Cfg} {call : CallFn} {base : Nat} {o : Oper} {ρ ρ' : Operand → Option AV} {h : Heap} {d : Bool} (hρ : ∀ x ∈ o.op.operands, ρ x = ρ' x) :
    evalOp C call base o ρ h d = evalOp C call base o ρ' h d := by
  obtain ⟨dst, op, type, pos, after, guard⟩ := o
  have pairs : ∀ ps : Array (Nat × Operand), (∀ x ∈ (ps.toList.map (·.2)), ρ x = ρ' x) →
      ps.toList.mapM (fun p => (ρ p.2).map fun v => (p.1, v)) = ps.toList.mapM (fun p => (ρ' p.2).map fun v => (p.1, v)) := fun ps hp =>
    list_mapM_congr _ fun p hm => by rw [hp p.2 (List.mem_map.2 ⟨p, hm, rfl⟩)]
  cases op <;> simp only [Op.operands] at hρ <;> simp only [evalOp]
  case build t ps => rw [pairs ps fun x hx => hρ x (by simpa using hx)]
  case buildSlice t n ps => rw [pairs ps fun x hx => hρ x (by simpa using hx)]
  case makeFunc fn first captured =>
    rw [list_mapM_congr first.toList fun x hx => hρ x (by simp [Array.mem_toList_iff.1 hx]), list_mapM_congr captured.toList fun x hx => hρ x (by simp [Array.mem_toList_iff.1 hx])]
  case slice t x lo hi mx => cases lo <;> cases hi <;> cases mx <;> simp_all
  case call c =>
    have h1 : c.args.toList.mapM ρ = c.args.toList.mapM ρ' := list_mapM_congr _ fun x hx => hρ x (by simp [Call.operands, Array.mem_toList_iff.1 hx])
    rw [h1]
    cases hc : c.callee with
    | builtin b => rfl
    | value f => have hf : ρ f = ρ' f := hρ f (by simp [Call.operands, hc]); simp only [hf]
    | invoke r m => rfl
  all_goals (first | rfl | (simp_all; done))

theorem callF_p {C : Cfg} {call : CallFn} {g : FuncId} (hp : C.isPure g = true) {vs : List AV} {h h' : Heap} {d d' : Bool} {v : AV} (he : callF C call g vs h d = some (v, h', d')) :
    h' = h ∧ d' = d ∧ ∀ h2 d2, callF C call g vs h2 d2 = some (v, h2, d2) := by
  unfold callF at he ⊢
  cases hq : C.prim g with
  | some p =>
    simp only [hq] at he ⊢
    split at he
    · rename_i hcl
      cases hpv : p (stripL vs) with
      | none => simp [hpv] at he
      | some q =>
        simp only [hpv, Option.bind_some] at he
        split at he
        · rename_i hqc
          simp only [Option.some.injEq, Prod.mk.injEq] at he
          obtain ⟨rfl, rfl, rfl⟩ := he
          exact ⟨rfl, rfl, fun h2 d2 => by simp [hcl, hqc]⟩
        · cases he
    · cases he
  | none =>
    have hm : C.mode g = .pure := by simpa [Cfg.isPure, hq] using hp
    simp only [hq, hm] at he ⊢
    split at he
    · rename_i hcl
      split at he
      · rename_i q h1 d1 hcall
        split at he
        · rename_i hqc
          simp only [Option.some.injEq, Prod.mk.injEq] at he
          obtain ⟨rfl, rfl, rfl⟩ := he
          exact ⟨rfl, rfl, fun h2 d2 => by simp [hcl, hcall, hqc]⟩
        · cases he
      · cases he
    · cases he

theorem map_still {x : Option AV} {h h' : Heap} {d d' : Bool} {v : AV} (he : x.map (fun y => (y, h, d)) = some (v, h', d')) : h' = h ∧ d' = d ∧ ∀ (h2 : Heap) (d2 : Bool), x.map (fun y => (y, h2, d2)) = some (v, h2, d2) := by
  cases x with
  | none => simp at he
  | some y =>
    simp only [Option.map_some, Option.some.injEq, Prod.mk.injEq] at he
    obtain ⟨rfl, rfl, rfl⟩ := he
    exact ⟨rfl, rfl, fun _ _ => rfl⟩

theorem convA_p {P : Program} {s t : TypeId} {h h' : Heap} {a z : AV} (hc : convCls P s t = .p) (he : convA P s t h a = some (z, h')) : h' = h ∧ ∀ h2, convA P s t h2 a = some (z, h2) := by
  unfold convCls at hc
  unfold convA at he ⊢
  split at he
  · rename_i k k0 n hs hd
    simp only [Option.some.injEq, Prod.mk.injEq] at he
    obtain ⟨rfl, rfl⟩ := he
    exact ⟨rfl, fun h2 => by simp [hs, hd]⟩
  · rename_i str hs hd
    simp only [Option.some.injEq, Prod.mk.injEq] at he
    obtain ⟨rfl, rfl⟩ := he
    exact ⟨rfl, fun h2 => by simp [hs, hd]⟩
  · rename_i e str hs hd
    rw [hd] at hc
    cases hc
  · rename_i e hs hd
    rw [hd, hs] at hc
    cases hc
  · rename_i e0 e xs c τ hs hd
    rw [hd] at hc
    cases hc
  · cases he

theorem convA_r {P : Program} {s t : TypeId} {h h' : Heap} {a z : AV} (hc : convCls P s t = .r) (he : convA P s t h a = some (z, h')) : h' = h := by
  unfold convCls at hc
  unfold convA at he
  split at he
  · rename_i k k0 n hs hd
    simp only [Option.some.injEq, Prod.mk.injEq] at he
    exact he.2.symm
  · simp only [Option.some.injEq, Prod.mk.injEq] at he
    exact he.2.symm
  · rename_i e str hs hd
    rw [hd] at hc
    cases hc
  · rename_i e hs hd
    repeat' split at he
    all_goals first
      | (cases he; done)
      | (simp only [Option.some.injEq, Prod.mk.injEq] at he; exact he.2.symm)
      | (simp only [Option.map_eq_some_iff] at he; obtain ⟨s, _, he⟩ := he; cases he; rfl)
  · rename_i e0 e xs c τ hs hd
    rw [hd] at hc
    cases hc
  · cases he

theorem evalOp_p {C : Cfg} {call : CallFn} {base : Nat} {o : Oper} {fr : List AV} {h h' : Heap} {d d' : Bool} {v : AV} (hc : cls C o = .p) (he : evalOp C call base o (evalOperand fr) h d = some (v, h', d')) :
    h' = h ∧ d' = d ∧ ∀ h2 d2, evalOp C call base o (evalOperand fr) h2 d2 = some (v, h2, d2) := by
  obtain ⟨dst, op, type, pos, after, guard⟩ := o
  cases op <;> simp only [cls] at hc <;> simp only [evalOp] at he ⊢
  case convert s t x =>
    split at he
    · rename_i a ha
      cases hz : convA C.P s t h a with
      | none => simp [hz] at he
      | some q =>
        obtain ⟨z, h1⟩ := q
        simp only [hz, Option.map_some, Option.some.injEq, Prod.mk.injEq] at he
        obtain ⟨rfl, rfl, rfl⟩ := he
        obtain ⟨rfl, k⟩ := convA_p hc hz
        exact ⟨rfl, rfl, fun h2 d2 => by simp [k h2]⟩
    · cases he
  case call c =>
    split at he
    · rename_i vs hvs
      cases hcb : c.callee with
      | builtin b =>
        simp only [hcb] at he hc ⊢
        cases b <;> simp only at hc <;> first | (cases hc; done) | skip
        all_goals (split at he)
        all_goals first
          | (exact map_still he)
          | (cases he; done)
          | (simp_all; done)
      | value f =>
        simp only [hcb] at he hc ⊢
        cases f with
        | func g =>
          simp only at hc
          split at hc
          · rename_i hp
            simp only [evalOperand] at he ⊢
            exact callF_p hp he
          · cases hc
        | _ => cases hc
      | invoke r m => simp [hcb] at hc
    · cases he
  case buildSlice t n ps =>
    split at hc
    · cases hc
    · rename_i hf
      simp only [if_neg hf] at he ⊢
      split at he
      · exact map_still he
      · cases he
  all_goals first
    | (cases hc; done)
    | (exact map_still he)
    | (cases he; done)
    | skip
  all_goals (split at he)
  all_goals first
    | (exact map_still he)
    | (cases he; done)
    | (simp only [Option.some.injEq, Prod.mk.injEq] at he; obtain ⟨rfl, rfl, rfl⟩ := he; exact ⟨rfl, rfl, fun _ _ => rfl⟩)

theorem evalOp_r {C : Cfg} {call : CallFn} {base : Nat} {o : Oper} {ρ : Operand → Option AV} {h h' : Heap} {d d' : Bool} {v : AV} (hc : cls C o = .r) (he : evalOp C call base o ρ h d = some (v, h', d')) :
    h' = h ∧ d' = d := by
  obtain ⟨dst, op, type, pos, after, guard⟩ := o
  cases op <;> simp only [cls] at hc <;> (try (cases hc; done)) <;> simp only [evalOp] at he
  case buildSlice t n ps => split at hc <;> cases hc
  case load t a =>
    split at he
    · exact ⟨(map_still he).1, (map_still he).2.1⟩
    · cases he
  case convert s t x =>
    split at he
    · rename_i a ha
      cases hz : convA C.P s t h a with
      | none => simp [hz] at he
      | some q =>
        obtain ⟨z, h1⟩ := q
        simp only [hz, Option.map_some, Option.some.injEq, Prod.mk.injEq] at he
        obtain ⟨rfl, rfl, rfl⟩ := he
        exact ⟨convA_r hc hz, rfl⟩
    · cases he
  case call c =>
    cases hcb : c.callee with
    | builtin b => simp only [hcb] at hc; cases b <;> cases hc
    | value f =>
      simp only [hcb] at hc
      cases f with
      | func g => simp only at hc; split at hc <;> cases hc
      | _ => cases hc
    | invoke r m => simp only [hcb] at hc; cases hc

/-- Two operations of which neither waits for the other and that do not disturb each other. -/
def compat : Cls → Cls → Bool
  | .p, _ => true
  | _, .p => true
  | .r, .r => true
  | _, _ => false

theorem evalOperand_put {st : St} {dst : Option Tmp} {v : AV} {x : Operand} (h : ∀ d, dst = some d → x ≠ .tmp d) : evalOperand (st.put dst v).fr x = evalOperand st.fr x := by
  cases dst with
  | none => rfl
  | some d =>
    cases x with
    | tmp t =>
      have hne : d ≠ t := fun e => h d rfl (e ▸ rfl)
      simp [evalOperand, St.put, List.getElem?_set_ne hne]
    | _ => rfl

theorem operands_put {ops : Array Oper} {o : Oper} {st : St} {dst : Option Tmp} {v : AV} (h : ∀ d, dst = some d → d ∉ o.looksAt ops) : ∀ x ∈ o.op.operands, evalOperand (st.put dst v).fr x = evalOperand st.fr x :=
  fun x hx => evalOperand_put fun d hd hxd => h d hd (by
    subst hxd
    exact List.mem_append_left _ (List.mem_filterMap.2 ⟨.tmp d, by simpa using hx, rfl⟩))

theorem wantedA_put {ops : Array Oper} {o : Oper} {st : St} {dst : Option Tmp} {v : AV} (h : ∀ d, dst = some d → d ∉ o.looksAt ops) :
    Region.wanted o (yieldedA ops (st.put dst v).fr) = Region.wanted o (yieldedA ops st.fr) := by
  cases dst with
  | none => rfl
  | some d =>
    unfold Region.wanted
    cases hg : o.guard with
    | none => rfl
    | some gw =>
      obtain ⟨g, want⟩ := gw
      have hy : yieldedA ops (st.put (some d) v).fr g = yieldedA ops st.fr g := by
        unfold yieldedA
        cases ht : (ops[g]?).bind (·.dst) with
        | none => rfl
        | some t =>
          have hne : d ≠ t := fun e => h d rfl (by subst e; simp [Oper.looksAt, hg, ht])
          simp [St.put, List.getElem?_set_ne hne]
      simp only [hy]

theorem put_comm' (fr : List AV) (h1 h2 : Heap) {x y : Option Tmp} (v u : AV) (hne : ∀ d, x = some d → y ≠ some d) (h : Heap) (d : Bool) :
    (St.put ⟨(St.put ⟨fr, h1, d⟩ x v).fr, h, d⟩ y u) = (St.put ⟨(St.put ⟨fr, h2, d⟩ y u).fr, h, d⟩ x v) := by
  cases x with
  | none => cases y <;> rfl
  | some a =>
    cases y with
    | none => rfl
    | some b =>
      have hab : a ≠ b := fun e => hne a rfl (e ▸ rfl)
      simp [St.put, List.set_comm _ _ hab]

theorem put_h (fr : List AV) (h : Heap) (d : Bool) (x : Option Tmp) (v : AV) : (St.put ⟨fr, h, d⟩ x v).h = h ∧ (St.put ⟨fr, h, d⟩ x v).d = d := by cases x <;> exact ⟨rfl, rfl⟩
theorem put_fr (fr : List AV) (h h2 : Heap) (d d2 : Bool) (x : Option Tmp) (v : AV) : (St.put ⟨fr, h, d⟩ x v).fr = (St.put ⟨fr, h2, d2⟩ x v).fr := by cases x <;> rfl
theorem put_mk (fr : List AV) (h : Heap) (d : Bool) (x : Option Tmp) (v : AV) : St.put ⟨fr, h, d⟩ x v = ⟨(St.put ⟨fr, h, d⟩ x v).fr, h, d⟩ := by cases x <;> rfl

/-- What a step does, laid out. -/
theorem stepOp_cases {C : Cfg} {call : CallFn} {base : Nat} {ops : Array Oper} {o : Oper} {st st' : St} (he : stepOp C call base ops o st = some st') :
    (Region.wanted o (yieldedA ops st.fr) = true ∧ ∃ v h d, evalOp C call base o (evalOperand st.fr) st.h st.d = some (v, h, d) ∧ st' = St.put ⟨st.fr, h, d⟩ o.dst v) ∨
    (Region.wanted o (yieldedA ops st.fr) = false ∧ st' = st.put o.dst .undef) := by
  unfold stepOp at he
  split at he
  · rename_i hw
    split at he
    · rename_i v h d hev
      simp only [Option.some.injEq] at he
      exact .inl ⟨hw, v, h, d, hev, he.symm⟩
    · cases he
  · rename_i hw
    simp only [Option.some.injEq] at he
    exact .inr ⟨by simpa using hw, he.symm⟩

theorem step_swap {C : Cfg} {call : CallFn} {base : Nat} {ops : Array Oper} {oi oj : Oper} (hap : oi.apart ops oj = true) (hcm : compat (cls C oi) (cls C oj) = true) {st si sij : St}
    (h1 : stepOp C call base ops oi st = some si) (h2 : stepOp C call base ops oj si = some sij) : ∃ sj, stepOp C call base ops oj st = some sj ∧ stepOp C call base ops oi sj = some sij := by
  obtain ⟨a1, a2, a3⟩ := Oper.apart_spec hap
  obtain ⟨fr, h, d⟩ := st
  rcases stepOp_cases h1 with ⟨wi, v, hi, di, ei, rfl⟩ | ⟨wi, rfl⟩
  · simp only at wi ei
    have frI : ∀ x ∈ oj.op.operands, evalOperand (St.put ⟨fr, hi, di⟩ oi.dst v).fr x = evalOperand fr x := operands_put (st := ⟨fr, hi, di⟩) a1
    have wj0 : Region.wanted oj (yieldedA ops (St.put ⟨fr, hi, di⟩ oi.dst v).fr) = Region.wanted oj (yieldedA ops fr) := wantedA_put (st := ⟨fr, hi, di⟩) a1
    rcases stepOp_cases h2 with ⟨wj, u, hj, dj, ej, rfl⟩ | ⟨wj, rfl⟩
    · rw [wj0] at wj
      rw [evalOp_congr frI, (put_h fr hi di oi.dst v).1, (put_h fr hi di oi.dst v).2] at ej
      -- j ahead of i
      have key : ∃ hj' dj', evalOp C call base oj (evalOperand fr) h d = some (u, hj', dj') ∧ evalOp C call base oi (evalOperand fr) hj' dj' = some (v, hj, dj) := by
        cases hci : cls C oi with
        | p =>
          obtain ⟨rfl, rfl, k⟩ := evalOp_p hci ei
          exact ⟨hj, dj, ej, k _ _⟩
        | r =>
          obtain ⟨rfl, rfl⟩ := evalOp_r hci ei
          cases hcj : cls C oj with
          | p =>
            obtain ⟨rfl, rfl, k⟩ := evalOp_p hcj ej
            exact ⟨_, _, ej, ei⟩
          | r =>
            obtain ⟨rfl, rfl⟩ := evalOp_r hcj ej
            exact ⟨_, _, ej, ei⟩
          | s => rw [hci, hcj] at hcm; cases hcm
        | s =>
          cases hcj : cls C oj with
          | p =>
            obtain ⟨rfl, rfl, k⟩ := evalOp_p hcj ej
            exact ⟨h, d, k _ _, ei⟩
          | r => rw [hci, hcj] at hcm; cases hcm
          | s => rw [hci, hcj] at hcm; cases hcm
      obtain ⟨hj', dj', e1, e2⟩ := key
      refine ⟨St.put ⟨fr, hj', dj'⟩ oj.dst u, by simp only [stepOp, wj, if_true, e1], ?_⟩
      have frJ : ∀ x ∈ oi.op.operands, evalOperand (St.put ⟨fr, hj', dj'⟩ oj.dst u).fr x = evalOperand fr x := operands_put (st := ⟨fr, hj', dj'⟩) a3
      have wi0 : Region.wanted oi (yieldedA ops (St.put ⟨fr, hj', dj'⟩ oj.dst u).fr) = Region.wanted oi (yieldedA ops fr) := wantedA_put (st := ⟨fr, hj', dj'⟩) a3
      simp only [stepOp, wi0, wi, if_true, evalOp_congr frJ, (put_h fr hj' dj' oj.dst u).1, (put_h fr hj' dj' oj.dst u).2, e2]
      rw [put_fr fr hj' hj dj' dj oj.dst u, put_fr fr hi hj di dj oi.dst v]
      exact congrArg some (put_comm' fr hj hj v u a2 hj dj).symm
    · rw [wj0] at wj
      refine ⟨St.put ⟨fr, h, d⟩ oj.dst .undef, by simp only [stepOp, wj, Bool.false_eq_true, if_false], ?_⟩
      have frJ : ∀ x ∈ oi.op.operands, evalOperand (St.put ⟨fr, h, d⟩ oj.dst .undef).fr x = evalOperand fr x := operands_put (st := ⟨fr, h, d⟩) a3
      have wi0 : Region.wanted oi (yieldedA ops (St.put ⟨fr, h, d⟩ oj.dst .undef).fr) = Region.wanted oi (yieldedA ops fr) := wantedA_put (st := ⟨fr, h, d⟩) a3
      simp only [stepOp, wi0, wi, if_true, evalOp_congr frJ, (put_h fr h d oj.dst .undef).1, (put_h fr h d oj.dst .undef).2, ei]
      rw [put_mk fr hi di oi.dst v, put_fr fr h hi d di oj.dst .undef]
      exact congrArg some (put_comm' fr hi hi v .undef a2 hi di).symm
  · simp only at wi
    have frI : ∀ x ∈ oj.op.operands, evalOperand (St.put ⟨fr, h, d⟩ oi.dst .undef).fr x = evalOperand fr x := operands_put (st := ⟨fr, h, d⟩) a1
    have wj0 : Region.wanted oj (yieldedA ops (St.put ⟨fr, h, d⟩ oi.dst .undef).fr) = Region.wanted oj (yieldedA ops fr) := wantedA_put (st := ⟨fr, h, d⟩) a1
    rcases stepOp_cases h2 with ⟨wj, u, hj, dj, ej, rfl⟩ | ⟨wj, rfl⟩
    · rw [wj0] at wj
      rw [evalOp_congr frI, (put_h fr h d oi.dst .undef).1, (put_h fr h d oi.dst .undef).2] at ej
      refine ⟨St.put ⟨fr, hj, dj⟩ oj.dst u, by simp only [stepOp, wj, if_true, ej], ?_⟩
      have wi0 : Region.wanted oi (yieldedA ops (St.put ⟨fr, hj, dj⟩ oj.dst u).fr) = Region.wanted oi (yieldedA ops fr) := wantedA_put (st := ⟨fr, hj, dj⟩) a3
      simp only [stepOp, wi0, wi, Bool.false_eq_true, if_false]
      rw [put_mk fr hj dj oj.dst u, put_fr fr h hj d dj oi.dst .undef]
      exact congrArg some (put_comm' fr hj hj .undef u a2 hj dj).symm
    · rw [wj0] at wj
      refine ⟨St.put ⟨fr, h, d⟩ oj.dst .undef, by simp only [stepOp, wj, Bool.false_eq_true, if_false], ?_⟩
      have wi0 : Region.wanted oi (yieldedA ops (St.put ⟨fr, h, d⟩ oj.dst .undef).fr) = Region.wanted oi (yieldedA ops fr) := wantedA_put (st := ⟨fr, h, d⟩) a3
      simp only [stepOp, wi0, wi, Bool.false_eq_true, if_false]
      rw [put_mk fr h d oj.dst .undef, put_mk fr h d oi.dst .undef]
      exact congrArg some (put_comm' fr h h .undef .undef a2 h d).symm

end Go.Proofs.Ytnifldbmflkmpaa.Ev

/-
  Regions, code, functions: what the evaluator says, the model does.
-/
namespace Go.Proofs.Ytnifldbmflkmpaa.Ev
open Go
set_option linter.unusedVariables false
set_option linter.unusedSimpArgs false

/-- Operation number i. -/
def stepI (C : Cfg) (call : CallFn) (base : Nat) (ops : Array Oper) (i : Nat) (st : St) : Option St :=
  match ops[i]? with
  | none => some st
  | some o => stepOp C call base ops o st

/-- Whatever order is picked from here on, the evaluator ends in 'fin'. -/
def anyA (C : Cfg) (call : CallFn) (base : Nat) (ops : Array Oper) (fin : St) : Nat → Array Bool → St → Prop
  | 0, listed, st => Region.ready .any ops listed = [] ∧ st = fin
  | fuel + 1, listed, st =>
    (Region.ready .any ops listed = [] → st = fin) ∧
    ∀ i ∈ Region.ready .any ops listed, ∃ st', stepI C call base ops i st = some st' ∧ anyA C call base ops fin fuel (listed.setIfInBounds i true) st'

/-- An operation that may come up now may be taken first. -/
theorem anyA_first {C : Cfg} {call : CallFn} {base : Nat} {ops : Array Oper} {fin : St} {i : Nat} {oi : Oper} (hi : ops[i]? = some oi) (D : List Nat) :
    ∀ (fuel : Nat) (listed : Array Bool) (st si : St),
      (∀ j oj, ops[j]? = some oj → j ≠ i → listed.getD j true = false → j ∉ D → oi.apart ops oj = true ∧ compat (cls C oi) (cls C oj) = true) →
      (∀ j ∈ D, listed.getD j true = false ∧ ∃ oj, ops[j]? = some oj ∧ ∃ e ∈ oj.after, Region.binds .any e = true ∧ (e.on = i ∨ e.on ∈ D)) →
      i ∈ Region.ready .any ops listed → stepOp C call base ops oi st = some si →
      anyA C call base ops fin fuel (listed.setIfInBounds i true) si → anyA C call base ops fin (fuel + 1) listed st := by
  intro fuel
  induction fuel with
  | zero =>
    intro listed st si _ _ hr hs H
    refine ⟨fun h => (by rw [h] at hr; cases hr), fun j hj => ?_⟩
    by_cases hji : j = i
    · subst hji; exact ⟨si, by simp only [stepI, hi]; exact hs, H⟩
    · have := ready_mono hj hji
      rw [H.1] at this
      cases this
  | succ fuel ih =>
    intro listed st si hfree hD hr hs H
    refine ⟨fun h => (by rw [h] at hr; cases hr), fun j hj => ?_⟩
    by_cases hji : j = i
    · subst hji; exact ⟨si, by simp only [stepI, hi]; exact hs, H⟩
    · obtain ⟨sij, h1, h2⟩ := H.2 j (ready_mono hj hji)
      obtain ⟨hjun, oj, hoj, hall⟩ := mem_ready.1 hj
      have hnot : j ∉ D := fun hjD => by
        obtain ⟨_, oj', hoj', e, he, hb, hon⟩ := hD j hjD
        rw [hoj] at hoj'
        cases hoj'
        have h1 := hall e he hb
        have h0 : listed.getD e.on true = false := by
          rcases hon with hon | hon
          · rw [hon]; exact (mem_ready.1 hr).1
          · exact (hD _ hon).1
        rcases Nat.lt_or_ge e.on listed.size with h' | h'
        · simp [h'] at h0 h1; rw [h0] at h1; cases h1
        · simp [Array.getElem?_eq_none h'] at h1
      simp only [stepI, hoj] at h1
      obtain ⟨a1, a2⟩ := hfree j oj hoj hji hjun hnot
      obtain ⟨sj, k1, k2⟩ := step_swap a1 a2 hs h1
      refine ⟨sj, by simp only [stepI, hoj]; exact k1, ?_⟩
      refine ih (listed.setIfInBounds j true) sj sij ?_ ?_ (ready_mono hr (Ne.symm hji)) k2 ?_
      · intro k ok hk hki hun hno
        refine hfree k ok hk hki ?_ hno
        by_cases hjk : j = k
        · subst hjk; exact hjun
        · rw [getD_set_ne true hjk] at hun; exact hun
      · intro k hk
        obtain ⟨q1, q2⟩ := hD k hk
        refine ⟨?_, q2⟩
        rw [getD_set_ne true (fun e => hnot (by rw [e]; exact hk))]
        exact q1
      · rw [Array.setIfInBounds_comm _ _ hji]
        exact h2

def edgeTo (ops : Array Oper) (i : Nat) (d : List Nat) (n : Nat) : Bool :=
  match ops[n]? with | some o => o.after.any (fun e => Region.binds .any e && (e.on == i || d.contains e.on)) | none => false
/-- The operations that wait for operation i, one behind the other. -/
def waits (ops : Array Oper) (listed : Array Bool) (i : Nat) : Nat → List Nat
  | 0 => []
  | n + 1 =>
    if n ≠ i ∧ listed.getD n true = false ∧ edgeTo ops i (waits ops listed i n) n = true then n :: waits ops listed i n
    else waits ops listed i n
theorem waits_spec {ops : Array Oper} {listed : Array Bool} {i : Nat} : ∀ (n j : Nat), j ∈ waits ops listed i n → listed.getD j true = false ∧ ∃ oj, ops[j]? = some oj ∧ ∃ e ∈ oj.after, Region.binds .any e = true ∧ (e.on = i ∨ e.on ∈ waits ops listed i n)
  | 0, j, h => by simp [waits] at h
  | n + 1, j, h => by
    have sub : ∀ k, k ∈ waits ops listed i n → k ∈ waits ops listed i (n + 1) := fun k hk => by
      rw [waits]
      split
      · exact List.mem_cons_of_mem _ hk
      · exact hk
    have old : j ∈ waits ops listed i n → listed.getD j true = false ∧ ∃ oj, ops[j]? = some oj ∧ ∃ e ∈ oj.after, Region.binds .any e = true ∧ (e.on = i ∨ e.on ∈ waits ops listed i (n + 1)) := fun hj => by
      obtain ⟨h1, oj, h2, e, h3, h4, h5⟩ := waits_spec n j hj
      exact ⟨h1, oj, h2, e, h3, h4, h5.imp id (sub _)⟩
    rw [waits] at h
    split at h
    · rename_i hc
      obtain ⟨_, c2, c3⟩ := hc
      rcases List.mem_cons.1 h with e | e
      · subst e
        refine ⟨c2, ?_⟩
        unfold edgeTo at c3
        split at c3
        · rename_i o ho
          obtain ⟨e, he, hb⟩ := Array.any_eq_true'.1 c3
          simp only [Bool.and_eq_true, Bool.or_eq_true, beq_iff_eq, List.contains_iff_mem] at hb
          exact ⟨o, ho, e, he, hb.1, hb.2.imp id (sub _)⟩
        · cases c3
      · exact old e
    · exact old h
/-- Nothing that has not come up yet is disturbed by operation i, but what waits for it. -/
def freeA (C : Cfg) (ops : Array Oper) (listed : Array Bool) (i : Nat) : Bool :=
  match ops[i]? with
  | none => false
  | some oi => (List.range ops.size).all fun j => j == i || listed.getD j true || (waits ops listed i ops.size).contains j || match ops[j]? with
      | some oj => oi.apart ops oj && compat (cls C oi) (cls C oj)
      | none => true

theorem freeA_spec {C : Cfg} {ops : Array Oper} {i : Nat} {oi : Oper} {listed : Array Bool} (hi : ops[i]? = some oi) (h : freeA C ops listed i = true) (j : Nat) (oj : Oper)
    (hj : ops[j]? = some oj) (hne : j ≠ i) (hun : listed.getD j true = false) (hno : j ∉ waits ops listed i ops.size) :
    oi.apart ops oj = true ∧ compat (cls C oi) (cls C oj) = true := by
  simp only [freeA, hi, List.all_eq_true, List.mem_range] at h
  have h1 := h j (Array.getElem?_eq_some_iff.1 hj).1
  simpa only [hj, Bool.or_eq_true, beq_iff_eq, hne, false_or, hun, Bool.false_eq_true, Bool.and_eq_true, List.contains_iff_mem, hno] using h1

def lexA (C : Cfg) (ops : Array Oper) : Nat → Nat → Array Bool → Bool
  | 0, _, listed => (Region.ready .any ops listed).isEmpty
  | fuel + 1, k, listed => (Region.ready .any ops listed).contains k && freeA C ops listed k && lexA C ops fuel (k + 1) (listed.setIfInBounds k true)

theorem anyA_lex {C : Cfg} {call : CallFn} {base : Nat} {ops : Array Oper} {fin : St} : ∀ (l : List Oper) (k : Nat) (listed : Array Bool) (st : St), (∀ j, l[j]? = ops[k + j]?) →
    lexA C ops l.length k listed = true → evalOps C call base ops l st = some fin → anyA C call base ops fin l.length listed st
  | [], _, _, _, _, hB, h => by
    simp only [evalOps, Option.some.injEq] at h
    exact ⟨by simpa [lexA] using hB, h⟩
  | o :: l, k, listed, st, hl, hB, h => by
    have h0 : ops[k]? = some o := by simpa using (hl 0).symm
    simp only [List.length_cons, lexA, Bool.and_eq_true] at hB
    obtain ⟨⟨hr, hf⟩, hB'⟩ := hB
    simp only [evalOps] at h
    split at h
    · rename_i s1 hs
      exact anyA_first h0 (waits ops listed k ops.size) l.length listed st s1 (freeA_spec h0 hf) (waits_spec ops.size) (by simpa using hr) hs
        (anyA_lex l (k + 1) _ _ (fun j => by have := hl (j + 1); simpa [Nat.add_assoc, Nat.add_comm 1 j] using this) hB' h)
    · cases h

section
variable {C : Cfg} (hC : CfgOk C) {call : CallFn} (hcall : CallSpec C.P call) {base B : Nat} {ops : Array Oper} {Q : Exit → Act → World → Prop}
include hC hcall

theorem anyA_wp {fin : St} : ∀ (fuel : Nat) (listed : Array Bool) (st : St) (m : M) (a : Act) (w : World), anyA C call base ops fin fuel listed st → StRel m st a w → base ≤ st.h.length → B ≤ w.heap.size →
    (∀ m' a' w', StStep base B m st w m' fin a' w' → Q .normal a' w') → wpAny C.P .any ops Q fuel listed a w
  | 0, listed, st, m, a, w, h, hr, hb, hB, hk => by
    obtain ⟨h1, rfl⟩ := h
    exact ⟨h1, hk m a w ⟨hr, Step.refl hr.inv, Nat.le_refl _, fun e => ⟨e, fun _ _ => rfl⟩⟩⟩
  | fuel + 1, listed, st, m, a, w, h, hr, hb, hB, hk => by
    refine ⟨fun h0 => ?_, fun i hi => ?_⟩
    · have := h.1 h0
      subst this
      exact hk m a w ⟨hr, Step.refl hr.inv, Nat.le_refl _, fun e => ⟨e, fun _ _ => rfl⟩⟩
    · obtain ⟨s1, h1, h2⟩ := h.2 i hi
      unfold stepI at h1
      unfold wpOp
      split
      · rename_i ho
        simp only [ho, Option.some.injEq] at h1
        subst h1
        exact anyA_wp fuel _ st m a w h2 hr hb hB hk
      · rename_i o ho
        simp only [ho] at h1
        have := stepOp_ok hC hcall (B := B) h1 hr hb hB (Q := Q) (K := wpAny C.P .any ops Q fuel (listed.setIfInBounds i true)) (fun m' a' w' s =>
          anyA_wp fuel _ s1 m' a' w' h2 s.rel (Nat.le_trans hb s.len) (Nat.le_trans hB s.step.size) fun m2 a2 w2 s2 => hk m2 a2 w2 (s.trans s2))
        split
        · rename_i hw; rw [if_pos hw] at this; exact .inl this
        · rename_i hw; rw [if_neg hw] at this; exact this

theorem ops_wp : ∀ (l : List Oper) (st fin : St) (m : M) (a : Act) (w : World), evalOps C call base ops l st = some fin → StRel m st a w → base ≤ st.h.length → B ≤ w.heap.size →
    (∀ m' a' w', StStep base B m st w m' fin a' w' → Q .normal a' w') → wpList C.P ops Q l a w
  | [], st, fin, m, a, w, h, hr, hb, hB, hk => by
    simp only [evalOps, Option.some.injEq] at h
    subst h
    exact hk m a w ⟨hr, Step.refl hr.inv, Nat.le_refl _, fun e => ⟨e, fun _ _ => rfl⟩⟩
  | o :: l, st, fin, m, a, w, h, hr, hb, hB, hk => by
    simp only [evalOps] at h
    split at h
    · rename_i s1 hs
      refine wpList_step fun K hK => ?_
      exact stepOp_ok hC hcall (B := B) hs hr hb hB (fun m' a' w' s => hK _ _ (ops_wp l s1 fin m' a' w' h s.rel (Nat.le_trans hb s.len) (Nat.le_trans hB s.step.size) fun m2 a2 w2 s2 => hk m2 a2 w2 (s.trans s2)))
    · cases h

end

/-- Every region of a code whose order is drawn keeps to the check. -/
def drawsOk (C : Cfg) : Code → Bool
  | .region _ ops draw => !draw || lexA C ops ops.size 0 (Array.replicate ops.size false)
  | .seq a b => drawsOk C a && drawsOk C b
  | .cond _ a b => drawsOk C a && drawsOk C b
  | .block _ b => drawsOk C b
  | .loop b => drawsOk C b
  | .scope b => drawsOk C b
  | _ => true

/-- How the evaluator's way out and the model's agree. -/
def ExRel : Ex → Exit → Prop
  | .normal, .normal => True
  | .ret, .ret => True
  | .exit i, .exit j => i = j
  | _, _ => False

theorem Code_wp_mono {P : Program} {c : Code} {Q Q' : Exit → Act → World → Prop} {a : Act} {w : World} (h : c.wp P Q a w) (hq : ∀ e a w, Q e a w → Q' e a w) : c.wp P Q' a w := wp_mono h hq

section
variable {C : Cfg} (hC : CfgOk C) (hm : C.P.follows .mixedOrders = true) {call : CallFn} (hcall : CallSpec C.P call) {base n : Nat}
include hC hm hcall

/-- What the code leaves behind. -/
def Post (C : Cfg) (base : Nat) (m : M) (st : St) (w : World) (x : Ex) (st' : St) : Exit → Act → World → Prop := fun e a' w' => ExRel x e ∧ ∃ m', StStep base w.heap.size m st w m' st' a' w'

theorem code_ok : ∀ (c : Code), drawsOk C c = true → ∀ (st st' : St) (x : Ex), evalC C call base n c st = some (x, st') → ∀ (m : M) (a : Act) (w : World), StRel m st a w → base ≤ st.h.length →
    c.wp C.P (Post C base m st w x st') a w
  | .skip, _, st, st', x, he, m, a, w, hr, hb => by
    simp only [evalC, Option.some.injEq, Prod.mk.injEq] at he
    obtain ⟨rfl, rfl⟩ := he
    exact wp_skip ⟨trivial, m, hr, Step.refl hr.inv, Nat.le_refl _, fun e => ⟨e, fun _ _ => rfl⟩⟩
  | .label l, _, st, st', x, he, m, a, w, hr, hb => by
    simp only [evalC, Option.some.injEq, Prod.mk.injEq] at he
    obtain ⟨rfl, rfl⟩ := he
    exact wp_label ⟨trivial, m, hr, Step.refl hr.inv, Nat.le_refl _, fun e => ⟨e, fun _ _ => rfl⟩⟩
  | .region id ops draw, hd, st, st', x, he, m, a, w, hr, hb => by
    simp only [evalC] at he
    obtain ⟨fin, h1, he⟩ := Option.map_eq_some_iff.1 he
    simp only [Prod.mk.injEq] at he
    obtain ⟨rfl, rfl⟩ := he
    cases draw with
    | false => exact wp_region_list (ops_wp hC hcall ops.toList st fin m a w h1 hr hb (Nat.le_refl _) fun m' a' w' s => ⟨trivial, m', s⟩)
    | true =>
      simp only [drawsOk, Bool.not_true, Bool.false_or] at hd
      refine wp_region_any hm ?_
      have hA := anyA_lex (C := C) (call := call) (base := base) (ops := ops) (fin := fin) ops.toList 0 (Array.replicate ops.size false) st (by simp) (by simpa using hd) h1
      have s0 := Step.same (B := w.heap.size) hr.inv (w' := { w with drawn := w.drawn + 1 }) rfl rfl rfl rfl
      have hr0 : StRel m st a { w with drawn := w.drawn + 1 } := ⟨s0.inv, hr.fr, hr.defers⟩
      have := anyA_wp hC hcall (B := w.heap.size) (Q := Post C base m st w .normal fin) ops.toList.length _ st m a { w with drawn := w.drawn + 1 } hA hr0 hb (Nat.le_refl _) (fun m' a' w' s =>
        ⟨trivial, m', s.rel, s0.trans s.step, s.len, s.clean⟩)
      simpa using this
  | .seq p q, hd, st, st', x, he, m, a, w, hr, hb => by
    simp only [drawsOk, Bool.and_eq_true] at hd
    simp only [evalC] at he
    refine wp_seq ?_
    split at he
    · rename_i s1 h1
      refine Code_wp_mono (code_ok p hd.1 st s1 .normal h1 m a w hr hb) ?_
      rintro e a1 w1 ⟨hx, m1, s⟩
      cases e <;> simp only [ExRel] at hx
      refine Code_wp_mono (code_ok q hd.2 s1 st' x he m1 a1 w1 s.rel (Nat.le_trans hb s.len)) ?_
      rintro e a2 w2 ⟨hx2, m2, s2⟩
      exact ⟨hx2, m2, s.trans ⟨s2.rel, s2.step.mono s.step.size, s2.len, s2.clean⟩⟩
    · rename_i r hne
      refine Code_wp_mono (code_ok p hd.1 st st' x he m a w hr hb) ?_
      rintro e a1 w1 ⟨hx, m1, s⟩
      cases x with
      | normal => exact (hne _ he).elim
      | ret => cases e <;> simp only [ExRel] at hx; exact ⟨trivial, m1, s⟩
      | exit i => cases e <;> simp only [ExRel] at hx; exact ⟨hx, m1, s⟩
  | .cond c p q, hd, st, st', x, he, m, a, w, hr, hb => by
    simp only [drawsOk, Bool.and_eq_true] at hd
    simp only [evalC] at he
    split at he
    · rename_i hc
      exact wp_cond_true (hr.eval c _ hc).bool' (code_ok p hd.1 st st' x he m a w hr hb)
    · rename_i hc
      exact wp_cond_false (hr.eval c _ hc).bool' (code_ok q hd.2 st st' x he m a w hr hb)
    · cases he
  | .block id p, hd, st, st', x, he, m, a, w, hr, hb => by
    simp only [drawsOk] at hd
    simp only [evalC] at he
    refine wp_block ?_
    split at he
    · rename_i i s1 h1
      refine Code_wp_mono (code_ok p hd st s1 (.exit i) h1 m a w hr hb) ?_
      rintro e a1 w1 ⟨hx, m1, s⟩
      cases e <;> simp only [ExRel] at hx
      subst hx
      simp only [Exit.inBlock]
      split at he
      · rename_i hid
        rw [if_pos hid]
        simp only [Option.some.injEq, Prod.mk.injEq] at he
        obtain ⟨rfl, rfl⟩ := he
        exact ⟨trivial, m1, s⟩
      · rename_i hid
        rw [if_neg hid]
        simp only [Option.some.injEq, Prod.mk.injEq] at he
        obtain ⟨rfl, rfl⟩ := he
        exact ⟨rfl, m1, s⟩
    · rename_i r hne
      refine Code_wp_mono (code_ok p hd st st' x he m a w hr hb) ?_
      rintro e a1 w1 ⟨hx, m1, s⟩
      cases x with
      | normal => cases e <;> simp only [ExRel] at hx; exact ⟨trivial, m1, s⟩
      | ret => cases e <;> simp only [ExRel] at hx; exact ⟨trivial, m1, s⟩
      | exit i => exact (hne _ _ he).elim
  | .loop p, hd, st, st', x, he, m, a, w, hr, hb => by
    simp only [drawsOk] at hd
    simp only [evalC] at he
    have body := code_ok p hd
    refine wp_loop_rounds n ?_
    have key : ∀ (k : Nat) (s1 : St) (m1 : M) (a1 : Act) (w1 : World), iter (fun s => evalC C call base n p s) k s1 = some (x, st') → StStep base w.heap.size m st w m1 s1 a1 w1 →
        Code.rounds C.P p (Post C base m st w x st') k a1 w1 := by
      intro k
      induction k with
      | zero => intro s1 m1 a1 w1 h1 _; simp [iter] at h1
      | succ k ih =>
        intro s1 m1 a1 w1 h1 hs
        rw [rounds_succ]
        simp only [iter] at h1
        split at h1
        · rename_i s2 h2
          refine Code_wp_mono (body s1 s2 .normal h2 m1 a1 w1 hs.rel (Nat.le_trans hb hs.len)) ?_
          rintro e a2 w2 ⟨hx, m2, s⟩
          cases e <;> simp only [ExRel] at hx
          exact ih s2 m2 a2 w2 h1 (hs.trans ⟨s.rel, s.step.mono hs.step.size, s.len, s.clean⟩)
        · rename_i r hne
          refine Code_wp_mono (body s1 st' x h1 m1 a1 w1 hs.rel (Nat.le_trans hb hs.len)) ?_
          rintro e a2 w2 ⟨hx, m2, s⟩
          have hs2 := hs.trans ⟨s.rel, s.step.mono hs.step.size, s.len, s.clean⟩
          cases x with
          | normal => exact (hne _ h1).elim
          | ret => cases e <;> simp only [ExRel] at hx; exact ⟨trivial, m2, hs2⟩
          | exit i => cases e <;> simp only [ExRel] at hx; exact ⟨hx, m2, hs2⟩
    exact key n st m a w he ⟨hr, Step.refl hr.inv, Nat.le_refl _, fun e => ⟨e, fun _ _ => rfl⟩⟩
  | .scope p, hd, st, st', x, he, m, a, w, hr, hb => by
    simp only [drawsOk] at hd
    simp only [evalC] at he
    refine wp_scope_straight ?_
    refine Code_wp_mono (code_ok p hd st st' x he m a w hr hb) ?_
    rintro e a1 w1 ⟨hx, m1, s⟩
    cases e <;> (try exact ⟨hx, m1, s⟩)
    cases x <;> simp only [ExRel] at hx
  | .exit id, _, st, st', x, he, m, a, w, hr, hb => by
    simp only [evalC, Option.some.injEq, Prod.mk.injEq] at he
    obtain ⟨rfl, rfl⟩ := he
    exact wp_exit ⟨rfl, m, hr, Step.refl hr.inv, Nat.le_refl _, fun e => ⟨e, fun _ _ => rfl⟩⟩
  | .ret, _, st, st', x, he, m, a, w, hr, hb => by
    simp only [evalC, Option.some.injEq, Prod.mk.injEq] at he
    obtain ⟨rfl, rfl⟩ := he
    exact wp_ret ⟨trivial, m, hr, Step.refl hr.inv, Nat.le_refl _, fun e => ⟨e, fun _ _ => rfl⟩⟩
  | .rangeFunc _ _ _ _, _, st, st', x, he, m, a, w, hr, hb => by simp [evalC] at he
  | .goto _, _, st, st', x, he, m, a, w, hr, hb => by simp [evalC] at he
  | .refuse _, _, st, st', x, he, m, a, w, hr, hb => by simp [evalC] at he

end

/-- The code of every function that is walked keeps to the check. -/
def BodiesOk (C : Cfg) : Prop := ∀ f fn c, C.mode f ≠ .no → C.P.funcs[f]? = some fn → fn.body = some c → drawsOk C c = true

/-- One result. -/
def resultOne (tmps : Array Value) : ResultVar → Sem Value
  | .tmp t => pure (tmps.getD t undef)
  | .cell a t => do loadVar t (← asAddr (tmps.getD a undef))
theorem results_eq (fn : Func) (tmps : Array Value) : results fn tmps = (do
    let vs ← fn.results.mapM (resultOne tmps)
    pure (if h : vs.size = 1 then vs[0] else .tuple vs)) := by
  unfold results
  have : (fun x : ResultVar => (match x with | .tmp t => (pure (tmps.getD t undef) : Sem Value) | .cell a t => do loadVar t (← asAddr (tmps.getD a undef)))) = resultOne tmps := by
    funext x; cases x <;> rfl
  rw [← this]
  rfl

theorem resultA_ok {P : Program} {m : M} {st : St} {a : Act} {w : World} (hr : StRel m st a w) {r : ResultVar} {v : AV} (he : resultA P st.fr st.h r = some v) :
    ∃ u, (resultOne a.tmps r).run P w = .ok u w ∧ VRel m v u := by
  cases r with
  | tmp t =>
    simp only [resultA] at he
    exact ⟨_, rfl, hr.eval (.tmp t) v he⟩
  | cell ad t =>
    simp only [resultA] at he
    split at he
    · rename_i x hx
      have h1 := hr.eval (.tmp ad) x hx
      simp only [Act.eval] at h1
      obtain ⟨u, k1, k2⟩ := loadA_ok (P := P) hr.inv h1 he
      refine ⟨u, ?_, k2⟩
      simp only [resultOne]
      generalize a.tmps.getD ad undef = q at k1 ⊢
      cases q <;> simp [Instr.loadAt, Instr.sureAddr] at k1
      rename_i p
      cases p with
      | none => simp at k1
      | some p => simpa [asAddr] using k1
    · cases he

theorem results_mapM {P : Program} {m : M} {st : St} {a : Act} {w : World} (hr : StRel m st a w) : ∀ (rs : List ResultVar) (vs : List AV), rs.mapM (resultA P st.fr st.h) = some vs →
    ∃ us, (rs.mapM (resultOne a.tmps)).run P w = .ok us w ∧ VRelL m vs us
  | [], vs, h => by simp at h; subst h; exact ⟨[], by simp, .nil⟩
  | r :: rs, vs, h => by
    rw [List.mapM_cons] at h
    cases hx : resultA P st.fr st.h r with
    | none => simp [hx] at h
    | some v =>
      cases hl : rs.mapM (resultA P st.fr st.h) with
      | none => simp [hx, hl] at h
      | some ys =>
        simp [hx, hl] at h
        subst h
        obtain ⟨u, k1, k2⟩ := resultA_ok hr hx
        obtain ⟨us, k3, k4⟩ := results_mapM hr rs ys hl
        refine ⟨u :: us, ?_, .cons k2 k4⟩
        rw [List.mapM_cons]
        simp only [Sem.run_bind, k1, Result.andThen_ok, Sem.run_pure, k3]

theorem resultsA_ok {P : Program} {m : M} {st : St} {a : Act} {w : World} (hr : StRel m st a w) {fn : Func} {v : AV} (he : resultsA P fn.results.toList st.fr st.h = some v) :
    ∃ u, (results fn a.tmps).run P w = .ok u w ∧ VRel m v u := by
  unfold resultsA at he
  rw [results_eq, Array.mapM_eq_mapM_toList]
  cases hm : fn.results.toList.mapM (resultA P st.fr st.h) with
  | none => simp [hm] at he
  | some vs =>
    obtain ⟨us, k1, k2⟩ := results_mapM hr _ vs hm
    simp only [Sem.run_bind, Sem.run_map, k1, Result.andThen_ok, Sem.run_pure]
    have hl := k2.length
    rw [hm] at he
    split at he
    · rename_i x heq
      simp only [Option.some.injEq] at heq he
      subst heq he
      simp only [VRelL] at k2
      obtain ⟨u, us', rfl, k3, rfl⟩ := k2
      exact ⟨u, by simp, k3⟩
    · rename_i vs' hne heq
      simp only [Option.some.injEq] at heq he
      subst heq he
      have h1 : us.length ≠ 1 := by
        rw [hl]
        intro e
        match vs, e with
        | [y], _ => exact hne y rfl
      refine ⟨.tuple us.toArray, by simp [h1], ?_⟩
      simp only [VRel]
      exact ⟨_, rfl, k2⟩
    · rename_i heq; cases heq

mutual
theorem VRel.cleanOf {m : M} {n : Nat} (h1 : ∀ i c, m.mu i = some c → i < n) (h2 : ∀ i k r, m.rho i k = some r → i < n) : ∀ (x : AV) (v : Value), VRel m x v → x.clean n = true
  | .bool _, _, _ => rfl
  | .int _ _, _, _ => rfl
  | .str _, _, _ => rfl
  | .nilp, _, _ => rfl
  | .ptr b _, _, e => by simp only [VRel] at e; obtain ⟨c, e, _⟩ := e; simpa only [AV.clean, decide_eq_true_eq] using h1 _ _ e
  | .rptr x, _, e => by
    simp only [VRel] at e
    obtain ⟨a, cv, _, _, h3, _⟩ := e
    simpa only [AV.clean] using VRel.cleanOf h1 h2 x cv h3
  | .nils, _, _ => rfl
  | .list xs _ _ tok, _, e => by
    simp only [VRel] at e
    simp only [AV.clean, Bool.and_eq_true]
    rcases e with ⟨rfl, _, _, rfl, _⟩ | ⟨a, cap', cvs, s, _, _, _, h4, _, _, _, h8⟩
    · exact ⟨by simp only [cleanL], rfl⟩
    · refine ⟨VRelL.cleanOf h1 h2 xs cvs h4, ?_⟩
      cases tok with
      | none => rfl
      | some τ => simpa only [decide_eq_true_eq] using h2 _ _ _ (h8 τ rfl)
  | .slice b _ _ _, _, e => by simp only [VRel] at e; obtain ⟨c, e, _⟩ := e; simpa only [AV.clean, decide_eq_true_eq] using h1 _ _ e
  | .func _ x y, _, e => by
    simp only [VRel] at e
    obtain ⟨xs, ys, _, h3, h4⟩ := e
    simp only [AV.clean, Bool.and_eq_true]
    exact ⟨VRelL.cleanOf h1 h2 x _ h3, VRelL.cleanOf h1 h2 y _ h4⟩
  | .nilFunc, _, _ => rfl
  | .iface _ x, _, e => by simp only [VRel] at e; obtain ⟨cv, _, h3⟩ := e; simpa only [AV.clean] using VRel.cleanOf h1 h2 x cv h3
  | .nilIface, _, _ => rfl
  | .agg cs, _, e => by simp only [VRel] at e; obtain ⟨cvs, _, h3⟩ := e; simpa only [AV.clean] using VRelL.cleanOf h1 h2 cs _ h3
  | .tuple cs, _, e => by simp only [VRel] at e; obtain ⟨cvs, _, h3⟩ := e; simpa only [AV.clean] using VRelL.cleanOf h1 h2 cs _ h3
theorem VRelL.cleanOf {m : M} {n : Nat} (h1 : ∀ i c, m.mu i = some c → i < n) (h2 : ∀ i k r, m.rho i k = some r → i < n) : ∀ (x : List AV) (v : List Value), VRelL m x v → cleanL n x = true
  | [], _, _ => by simp only [cleanL]
  | x :: xs, _, e => by
    simp only [VRelL] at e
    obtain ⟨v, vs, _, h3, h4⟩ := e
    simp only [cleanL, Bool.and_eq_true]
    exact ⟨VRel.cleanOf h1 h2 x v h3, VRelL.cleanOf h1 h2 xs vs h4⟩
end

/-- Only what was there at the call is spoken of any more. -/
theorem Step.upto {m m' : M} {h h' : Heap} {w w' : World} (hi : Inv m h w) (s : Step w.heap.size m h w m' h' w') (hk : ∀ i, i < h.length → h'[i]? = h[i]?) (hl : h.length ≤ h'.length) :
    Step w.heap.size m h w (m'.upto h.length) h w' := by
  have hget : ∀ (i : Nat) (o : AO), h[i]? = some o → i < h.length ∧ h'[i]? = some o := fun i o e => by
    have := (List.getElem?_eq_some_iff.1 e).1
    exact ⟨this, by rw [hk i this]; exact e⟩
  have hle : m.le (m'.upto h.length) := ⟨s.le.F, fun i c e => by have := hi.mu i c e; simp only [M.upto, if_pos this]; exact s.le.mu _ _ e,
    fun i n r e => by have := hi.rho i n r e; simp only [M.upto, if_pos this]; exact s.le.rho _ _ _ e⟩
  refine ⟨hle, ⟨s.inv.f, s.inv.fone, ?_, ?_, ?_, ?_, ?_, ?_, ?_⟩, s.size, s.os, s.tape, s.output, s.frame, ?_, s.fnew⟩
  · intro i cs e
    obtain ⟨hil, e'⟩ := hget i _ e
    obtain ⟨c, cvs, t, h1, h2, h3, h4, h5⟩ := s.inv.var i cs e'
    obtain ⟨c0, cvs0, t0, g1, g2, g3, g4, g5⟩ := hi.var i cs e
    have hc : c = c0 := by have := s.le.mu _ _ g1; rw [h1] at this; cases this; rfl
    subst hc
    exact ⟨c, cvs, t, by simp only [M.upto, if_pos hil]; exact h1, h2, VRelL.upto _ _ (VRelL.cleanOf hi.mu hi.rho _ _ g3) h3, h4, h5⟩
  · intro i j cs ds c e e' h1 h2
    obtain ⟨hil, e⟩ := hget i _ e
    obtain ⟨hjl, e'⟩ := hget j _ e'
    simp only [M.upto, if_pos hil, if_pos hjl] at h1 h2
    exact s.inv.inj i j cs ds c e e' h1 h2
  · intro i n sz e
    obtain ⟨hil, e'⟩ := hget i _ e
    obtain ⟨a, cap, h1, h2⟩ := s.inv.own i n sz e'
    refine ⟨a, cap, by simp only [M.upto, if_pos hil]; exact h1, h2.spot, h2.le, h2.cell, h2.lt, fun k cs ek => ?_⟩
    obtain ⟨hkl, ek'⟩ := hget k _ ek
    simp only [M.upto, if_pos hkl]
    exact h2.var k cs ek'
  · intro i j n k sz tz a b ca cb e e' h1 h2 hne
    obtain ⟨hil, e⟩ := hget i _ e
    obtain ⟨hjl, e'⟩ := hget j _ e'
    simp only [M.upto, if_pos hil, if_pos hjl] at h1 h2
    exact s.inv.apart i j n k sz tz a b ca cb e e' h1 h2 hne
  · intro i c e
    simp only [M.upto] at e
    split at e
    · assumption
    · cases e
  · intro i n r e
    simp only [M.upto] at e
    split at e
    · assumption
    · cases e
  · intro i n k sz r e h1
    obtain ⟨hil, e'⟩ := hget i _ e
    simp only [M.upto, if_pos hil] at h1
    exact s.inv.cur i n k sz r e' h1
  · intro c hc
    refine s.touch c ?_
    rcases hc with ⟨i, cs, e, h1⟩ | ⟨i, n, sz, a, cap, e, h1, h2⟩
    · obtain ⟨hil, e'⟩ := hget i _ e
      simp only [M.upto, if_pos hil] at h1
      exact .inl ⟨i, cs, e', h1⟩
    · obtain ⟨hil, e'⟩ := hget i _ e
      simp only [M.upto, if_pos hil] at h1
      exact .inr ⟨i, n, sz, a, cap, e', h1, h2⟩

/-- **What the evaluator says of a function, the model does.** -/
theorem evalF_ok {C : Cfg} (hC : CfgOk C) (hB : BodiesOk C) (hm : C.P.follows .mixedOrders = true) : ∀ k, CallSpec C.P (evalF C k)
  | 0 => fun g vs h v h' d he => by simp [evalF] at he
  | k + 1 => fun g vs h v h' d he => by
    have ih := evalF_ok hC hB hm k
    simp only [evalF] at he
    split at he
    · cases he
    rename_i hmode
    split at he
    · cases he
    rename_i fn hfn
    split at he
    · cases he
    rename_i c hc
    intro m w us hi hr
    have hlen : us.size = vs.length := by have := hr.length; simpa using this
    have hst : StRel m ⟨vs ++ List.replicate (fn.ntmps - vs.length) .undef, h, false⟩ { tmps := us ++ Array.replicate (fn.ntmps - us.size) undef, defers := [] } w := by
      refine ⟨hi, ?_, rfl⟩
      simp only [Array.toList_append, Array.toList_replicate, hlen]
      exact hr.append (VRelL.replicate VRel.undef _)
    split at he
    · cases he
    · rename_i x st hne hev
      have hcode := code_ok hC hm ih (n := k) c (hB g fn c hmode hfn hc) _ _ x hev m _ w hst (Nat.le_refl _)
      split at he
      · rename_i q hq
        have fin : ∀ e a' w', Post C h.length m ⟨vs ++ List.replicate (fn.ntmps - vs.length) .undef, h, false⟩ w x st e a' w' →
            bodyPost C.P fn (fun e w' => ∃ u, e = .returned u ∧ ∃ m', Step w.heap.size m h w m' h' w' ∧ VRel m' v u) e a' w' := by
          rintro e a' w' ⟨hx, m', s⟩
          obtain ⟨u, k1, k2⟩ := resultsA_ok (P := C.P) s.rel hq
          have hpost : ∃ m', Step w.heap.size m h w m' h' w' ∧ VRel m' v u := by
            split at he
            · rename_i hcl
              simp only [Option.some.injEq, Prod.mk.injEq] at he
              obtain ⟨rfl, rfl, rfl⟩ := he
              simp only [Bool.and_eq_true, Bool.not_eq_true'] at hcl
              have hkeep := (s.clean hcl.1).2
              exact ⟨_, Step.upto hi s.step hkeep s.len, VRel.upto _ _ hcl.2 k2⟩
            · simp only [Option.some.injEq, Prod.mk.injEq] at he
              obtain ⟨rfl, rfl, rfl⟩ := he
              exact ⟨m', s.step, k2⟩
          cases x with
          | normal => cases e <;> simp only [ExRel] at hx; exact ⟨s.rel.defers, u, k1, u, rfl, hpost⟩
          | ret => cases e <;> simp only [ExRel] at hx; exact ⟨s.rel.defers, u, k1, u, rfl, hpost⟩
          | exit i => exact (hne i rfl).elim
        refine ⟨calls_of_wp hfn hc (Code_wp_mono hcode fin), ?_⟩
        obtain ⟨e0, a0, w0, ⟨hx0, m0, s0⟩, _⟩ := hcode default [] []
        split at he
        · simp only [Option.some.injEq, Prod.mk.injEq] at he
          obtain ⟨rfl, rfl, rfl⟩ := he
          exact ⟨Nat.le_refl _, fun _ _ _ => rfl⟩
        · simp only [Option.some.injEq, Prod.mk.injEq] at he
          obtain ⟨rfl, rfl, rfl⟩ := he
          exact ⟨s0.len, fun e => (s0.clean e).2⟩
      · cases he
    · cases he

end Go.Proofs.Ytnifldbmflkmpaa.Ev

/-
  From the readings of a row's arguments to abstract values, and from the evaluator's answer to what a row asks.
-/
namespace Go.Proofs.Ytnifldbmflkmpaa.Ev
open Go Go.RowKit Go.ChangeShapes Go.WideShapes
set_option linter.unusedVariables false
set_option linter.unusedSimpArgs false

/-- Memory as it stands: no cell will change that the call does not own. -/
def mOf (w : World) : M := ⟨fun a => match w.cell? a with | some v => if v.oneCell' then some v else none | none => none, fun _ => none, fun _ _ => none⟩

theorem mOf_cell {w : World} {a : Addr} {v : Value} (h : w.cell? a = some v) (h1 : v.oneCell' = true) : (mOf w).F a = some v := by
  simp [mOf, h, h1]

theorem inv_mOf (w : World) : Inv (mOf w) [] w where
  f := fun a v h => by
    simp only [mOf] at h
    split at h
    · rename_i x hx
      split at h
      · simp only [Option.some.injEq] at h; subst h; exact hx
      · cases h
    · cases h
  fone := fun a v h => by
    simp only [mOf] at h
    split at h
    · split at h
      · rename_i h1; simp only [Option.some.injEq] at h; subst h; exact h1
      · cases h
    · cases h
  var := fun i cs e => by simp at e
  inj := fun i j cs ds c e => by simp at e
  own := fun i n sz e => by simp at e
  apart := fun i j n k sz tz a b ca cb e => by simp at e
  mu := fun i c e => by simp [mOf] at e
  rho := fun i n r e => by simp [mOf] at e
  cur := fun i n k sz r e => by simp at e

def hasParts (h : TypeId → List AV → Prop) : List TypeId → List AV → Prop
  | [], xs => xs = []
  | t :: ts, xs => ∃ a b, xs = a ++ b ∧ h t a ∧ hasParts h ts b

def isOf (P : Program) (h : TypeId → List AV → Prop) (t : TypeId) (x : AV) : Prop :=
  (tyAgg P t = true ∧ ∃ cs, x = .agg cs ∧ h t cs) ∨ (tyAgg P t = false ∧ h t [x])

/-- The cells of a value of a type. -/
def has (P : Program) : Nat → TypeId → List AV → Prop
  | 0, _, _ => False
  | n + 1, t, xs =>
    match P.underlying t with
    | some .bool => ∃ b, xs = [.bool b]
    | some (.int k) => ∃ i, xs = [.int k i] ∧ (Lit.int k i).wf = true
    | some .string => ∃ s, xs = [.str s] ∧ s.length ≤ maxLen
    | some (.pointer e) => xs = [.nilp] ∨ ∃ y, xs = [.rptr y] ∧ isOf P (has P n) e y
    | some (.slice e) => ∃ ys, xs = [AV.L ys] ∧ ys.length ≤ maxLen ∧ ∀ y ∈ ys, isOf P (has P n) e y
    | some (.struct fs) => hasParts (has P n) (fs.toList.map (·.type)) xs
    | _ => False

def laidFrom (P : Program) : Nat → List Field → Option Nat
  | o, [] => some o
  | o, f :: fs => if f.offset = o then laidFrom P (o + P.cellsOf f.type) fs else none

def tyOk (P : Program) (ts : List TypeId) (t : TypeId) : Bool :=
  match P.underlying t with
  | some .bool | some (.int _) | some .string => true
  | some (.pointer e) => ts.contains e && decide (0 < P.cellsOf e)
  | some (.slice e) => ts.contains e && decide (0 < P.cellsOf e)
  | some (.struct fs) => (laidFrom P 0 fs.toList == some (P.cellsOf t)) && fs.toList.all (fun f => ts.contains f.type)
  | _ => false
def tysOk (P : Program) (ts : List TypeId) : Bool := ts.all (tyOk P ts)

theorem tysOk_at {P : Program} {ts : List TypeId} (h : tysOk P ts = true) {t : TypeId} (ht : t ∈ ts) : tyOk P ts t = true := List.all_eq_true.1 h t ht

/-- Cells of a value, put together. -/
theorem boxed {P : Program} {ts : List TypeId} (hts : tysOk P ts = true) {m : M} {n : Nat} {t : TypeId} (ht : t ∈ ts) {xs : List AV} {cs : List Value} (hh : has P n t xs) (hr : VRelL m xs cs) (h1 : ∀ v ∈ cs, v.oneCell' = true) :
    ∃ y cv, isOf P (has P n) t y ∧ VRel m y cv ∧ VCells cv = cs := by
  cases hagg : tyAgg P t with
  | true =>
    refine ⟨.agg xs, .agg cs.toArray, .inl ⟨hagg, xs, rfl, hh⟩, ?_, ?_⟩
    · simp only [VRel]; exact ⟨cs.toArray, rfl, hr⟩
    · simp [VCells, Value.cells]
  | false =>
    have hone : ∃ x, xs = [x] := by
      cases n with
      | zero => exact hh.elim
      | succ n =>
        simp only [has] at hh
        split at hh
        · obtain ⟨b, rfl⟩ := hh; exact ⟨_, rfl⟩
        · obtain ⟨b, rfl, _⟩ := hh; exact ⟨_, rfl⟩
        · obtain ⟨b, rfl, _⟩ := hh; exact ⟨_, rfl⟩
        · rcases hh with rfl | ⟨b, rfl, _⟩ <;> exact ⟨_, rfl⟩
        · obtain ⟨b, rfl, _⟩ := hh; exact ⟨_, rfl⟩
        · rename_i hu
          simp [tyAgg, hu] at hagg
        · exact hh.elim
    obtain ⟨x, rfl⟩ := hone
    simp only [VRelL] at hr
    obtain ⟨v, vs, rfl, hv, rfl⟩ := hr
    refine ⟨x, v, .inr ⟨hagg, hh⟩, hv, ?_⟩
    have := h1 v (by simp)
    cases v <;> first | rfl | (simp [Value.oneCell'] at this)

theorem cellsF_read {w : World} {base : Nat} {a : Addr} {n : Nat} {cs : List Value} (h : w.cells? base a n = some cs) (h1 : ∀ v ∈ cs, v.oneCell' = true) (h0 : 0 < n) : a.spot = none ∧ CellsF (mOf w).F a cs := by
  obtain ⟨_, hl, hc⟩ := World.cells?_some h
  have hs : a.spot = none := by
    have h2 := hc 0 h0
    rw [List.getElem?_eq_getElem (by omega)] at h2
    simp only [Addr.add, if_pos] at h2
    unfold World.cell? at h2
    split at h2
    · split at h2
      · cases h2
      · rename_i hn; cases hsp : a.spot <;> simp_all
    · cases h2
  refine ⟨hs, fun i v hv => ?_⟩
  have hi := (List.getElem?_eq_some_iff.1 hv).1
  have := hc i (by omega)
  rw [hv, Addr.add_none a hs] at this
  exact mOf_cell this (h1 v (List.mem_of_getElem? hv))

theorem CellsF.snoc {F : Addr → Option Value} {a : Addr} {l r : List Value} (h : CellsF F a l) (k : CellsF F ⟨a.block, a.off + l.length, none⟩ r) : CellsF F a (l ++ r) := by
  intro i v hv
  by_cases hi : i < l.length
  · rw [List.getElem?_append_left hi] at hv; exact h i v hv
  · rw [List.getElem?_append_right (by omega)] at hv
    have := k _ v hv
    simp only at this
    rwa [show a.off + l.length + (i - l.length) = a.off + i by omega] at this

/-- A reading gives abstract cells. -/
theorem trod_has {H : Type} {enc : TypeId × Value → H} {P : Program} {w : World} {base : Nat} {hd : Bool} {ts : List TypeId} (hts : tysOk P ts = true) :
    ∀ (fuel : Nat) (t : TypeId) (cs : List Value) (x : DataW H × List MemPlace), t ∈ ts → DataW.trod enc P w base (fun _ => true) hd fuel t cs = some x →
      ∃ xs, VRelL (mOf w) xs cs ∧ has P fuel t xs ∧ ∀ v ∈ cs, v.oneCell' = true
  | 0, t, cs, x, _, h => by simp [DataW.trod] at h
  | fuel + 1, t, cs, x, ht, h => by
    have hok := tysOk_at hts ht
    unfold tyOk at hok
    split at hok
    · rename_i hu
      obtain ⟨b, rfl, rfl⟩ := DataW.trod_bool hu h
      exact ⟨[.bool b], .cons (by simp only [VRel]) .nil, by simp only [has, hu]; exact ⟨b, rfl⟩, by simp [Value.oneCell']⟩
    · rename_i k hu
      obtain ⟨n, rfl, rfl, hw⟩ := DataW.trod_int hu h
      exact ⟨[.int k n], .cons (by simp only [VRel]) .nil, by simp only [has, hu]; exact ⟨n, rfl, hw⟩, by simp [Value.oneCell']⟩
    · rename_i hu
      obtain ⟨s, rfl, rfl, hs⟩ := DataW.trod_string hu h
      exact ⟨[.str s.data.toList], .cons (by simp only [VRel]; exact ⟨s, rfl, rfl⟩) .nil, by simp only [has, hu]; exact ⟨_, rfl, by simpa using hs⟩, by simp [Value.oneCell']⟩
    · rename_i e hu
      simp only [Bool.and_eq_true, List.contains_iff_mem, decide_eq_true_eq] at hok
      rcases DataW.trod_pointer hu h with ⟨rfl, rfl⟩ | ⟨a, cs', y, n, hf, rfl, rfl, hc, hy⟩
      · exact ⟨[.nilp], .cons (by simp only [VRel]) .nil, by simp [has, hu], by simp [Value.oneCell']⟩
      · obtain rfl : fuel = n := by omega
        obtain ⟨ys, k1, k2, k3⟩ := trod_has hts fuel e cs' y hok.1 hy
        obtain ⟨y', cv, q1, q2, q3⟩ := boxed hts hok.1 k2 k1 k3
        obtain ⟨hs, hF⟩ := cellsF_read hc k3 hok.2
        refine ⟨[.rptr y'], .cons ?_ .nil, by simp only [has, hu]; exact .inr ⟨y', rfl, q1⟩, by simp [Value.oneCell']⟩
        simp only [VRel]
        exact ⟨a, cv, rfl, hs, q2, by rw [q3]; exact hF⟩
    · rename_i e hu
      simp only [Bool.and_eq_true, List.contains_iff_mem, decide_eq_true_eq] at hok
      rcases DataW.trod_slice hu h with ⟨rfl, rfl⟩ | ⟨a, len, cap, elems, rest, n, hf, rfl, rfl, hb, hl, hm, hlen, hel, hsp, _⟩
      · refine ⟨[AV.L []], .cons ?_ .nil, by simp only [has, hu]; exact ⟨[], rfl, by simp, by simp⟩, by simp [Value.oneCell']⟩
        simp only [VRel]
        exact .inl ⟨by simp, by simp, by simp, by simp, by simp⟩
      · obtain rfl : fuel = n := by omega
        have hcap : ∀ i, i < cap → ∃ cs' z, w.cells? base (a.add (i * P.cellsOf e)) (P.cellsOf e) = some cs' ∧ DataW.trod enc P w base (fun _ => true) hd fuel e cs' = some z := by
          intro i hi
          by_cases hil : i < len
          · have := hel i hil
            rw [List.getElem?_eq_getElem (by omega)] at this
            obtain ⟨cs', h1, h2⟩ := Option.bind_eq_some_iff.1 this
            exact ⟨cs', _, h1, h2⟩
          · obtain ⟨hr, hrest⟩ := hsp rfl
            have := hrest (i - len) (by omega)
            rw [show len + (i - len) = i by omega, List.getElem?_eq_getElem (by omega)] at this
            obtain ⟨cs', h1, h2⟩ := Option.bind_eq_some_iff.1 this
            exact ⟨cs', _, h1, h2⟩
        have hspot : cap ≠ 0 → a.spot = none := fun h0 => by
          obtain ⟨cs', z, h1, h2⟩ := hcap 0 (by omega)
          obtain ⟨ys, k1, k2, k3⟩ := trod_has hts fuel e cs' z hok.1 h2
          rw [Nat.zero_mul] at h1
          exact (cellsF_read h1 k3 hok.2).1
        obtain ⟨f, hf⟩ := Deep.choose_lt (α := AV × Value) (n := len) (p := fun i p => isOf P (has P fuel) e p.1 ∧ VRel (mOf w) p.1 p.2 ∧ (VCells p.2).length = P.cellsOf e ∧ CellsF (mOf w).F ⟨a.block, a.off + i * P.cellsOf e, none⟩ (VCells p.2)) (fun i hi => by
          obtain ⟨cs', z, h1, h2⟩ := hcap i (by omega)
          obtain ⟨ys, k1, k2, k3⟩ := trod_has hts fuel e cs' z hok.1 h2
          obtain ⟨y', cv, q1, q2, q3⟩ := boxed hts hok.1 k2 k1 k3
          obtain ⟨_, hF⟩ := cellsF_read h1 k3 hok.2
          rw [Addr.add_none a (hspot (by omega))] at hF
          exact ⟨(y', cv), q1, q2, by rw [q3]; exact (World.cells?_some h1).2.1, by rw [q3]; exact hF⟩)
        refine ⟨[AV.L ((List.range len).map fun i => (f i).1)], .cons ?_ .nil, ?_, by simp [Value.oneCell']⟩
        · simp only [VRel]
          refine .inr ⟨a, cap, (List.range len).map fun i => (f i).2, P.cellsOf e, by simp, hspot, by simpa using hl, ?_, ?_, ?_, by simp, by simp⟩
          · apply VRelL.of_get (by simp)
            intro i x v hx hv
            have hi : i < len := by have := (List.getElem?_eq_some_iff.1 hx).1; simpa using this
            simp only [List.getElem?_map, List.getElem?_range hi, Option.map_some, Option.some.injEq] at hx hv
            subst hx; subst hv
            exact (hf i hi).2.1
          · intro cv hcv
            simp only [List.mem_map, List.mem_range] at hcv
            obtain ⟨i, hi, rfl⟩ := hcv
            exact (hf i hi).2.2.1
          · have key : ∀ k, k ≤ len → (((List.range k).map fun i => (f i).2).flatMap VCells).length = k * P.cellsOf e ∧ CellsF (mOf w).F a (((List.range k).map fun i => (f i).2).flatMap VCells) := by
              intro k
              induction k with
              | zero => intro _; exact ⟨by simp, by intro i v hv; simp at hv⟩
              | succ k ih =>
                intro hk
                obtain ⟨i1, i2⟩ := ih (by omega)
                have e1 := (hf k (by omega)).2.2.1
                have e2 := (hf k (by omega)).2.2.2
                rw [List.range_succ, List.map_append, List.flatMap_append]
                simp only [List.map_cons, List.map_nil, List.flatMap_cons, List.flatMap_nil, List.append_nil]
                exact ⟨by rw [List.length_append, i1, e1, Nat.succ_mul], i2.snoc (by rw [i1]; exact e2)⟩
            exact (key len (Nat.le_refl _)).2
        · simp only [has, hu]
          refine ⟨_, rfl, by simp; omega, fun y hy => ?_⟩
          simp only [List.mem_map, List.mem_range] at hy
          obtain ⟨i, hi, rfl⟩ := hy
          exact (hf i hi).1
    · rename_i fs hu
      simp only [Bool.and_eq_true, beq_iff_eq] at hok
      obtain ⟨hlaid, hall⟩ := hok
      obtain ⟨zs, n, hf, rfl, hcl, hzl, hz⟩ := DataW.trod_struct hu h
      obtain rfl : fuel = n := by omega
      have hz' : ∀ f ∈ fs.toList, ∃ z, DataW.trod enc P w base (fun _ => true) hd fuel f.type ((cs.drop f.offset).take (P.cellsOf f.type)) = some z := by
        intro f hf
        obtain ⟨i, hi⟩ := List.mem_iff_getElem?.1 hf
        have hi' : fs[i]? = some f := by simpa using hi
        have := hz i f hi'
        have hil : i < zs.length := by rw [hzl]; have := (List.getElem?_eq_some_iff.1 hi).1; simpa using this
        rw [List.getElem?_eq_getElem hil] at this
        exact ⟨_, this⟩
      have hmem : ∀ f ∈ fs.toList, f.type ∈ ts := fun f hf => by have := List.all_eq_true.1 hall f hf; simpa using this
      have key : ∀ (l : List Field) (o : Nat), laidFrom P o l = some (P.cellsOf t) → (∀ f ∈ l, f ∈ fs.toList) →
          ∃ xs, VRelL (mOf w) xs (cs.drop o) ∧ hasParts (has P fuel) (l.map (·.type)) xs ∧ ∀ v ∈ cs.drop o, v.oneCell' = true := by
        intro l
        induction l with
        | nil =>
          intro o ho _
          simp only [laidFrom, Option.some.injEq] at ho
          have : cs.drop o = [] := by apply List.drop_eq_nil_of_le; omega
          rw [this]
          exact ⟨[], .nil, by simp [hasParts], by simp⟩
        | cons f l ih =>
          intro o ho hl
          simp only [laidFrom] at ho
          split at ho
          · rename_i hfo
            obtain ⟨xs, k1, k2, k3⟩ := ih _ ho (fun g hg => hl g (List.mem_cons_of_mem _ hg))
            obtain ⟨z, hz⟩ := hz' f (hl f (by simp))
            obtain ⟨ys, j1, j2, j3⟩ := trod_has hts fuel f.type _ z (hmem f (hl f (by simp))) hz
            rw [hfo] at j1 j3
            have hsplit : cs.drop o = (cs.drop o).take (P.cellsOf f.type) ++ cs.drop (o + P.cellsOf f.type) := by
              rw [← List.drop_drop, List.take_append_drop]
            refine ⟨ys ++ xs, ?_, ?_, ?_⟩
            · rw [hsplit]; exact j1.append k1
            · simp only [List.map_cons, hasParts]; exact ⟨ys, xs, rfl, j2, k2⟩
            · intro v hv
              rw [hsplit, List.mem_append] at hv
              exact hv.elim (j3 v) (k3 v)
          · cases ho
      obtain ⟨xs, k1, k2, k3⟩ := key fs.toList 0 hlaid (fun f hf => hf)
      exact ⟨xs, by simpa using k1, by simp only [has, hu]; exact k2, by simpa using k3⟩
    · cases hok

/-- Values of the types of a row's parameters. -/
def hasAll (P : Program) : List TypeId → List AV → Prop
  | [], [] => True
  | t :: ts, x :: xs => (∃ n, isOf P (has P n) t x) ∧ hasAll P ts xs
  | _, _ => False

theorem value_box {P : Program} {ts : List TypeId} (hts : tysOk P ts = true) {m : M} {n : Nat} {t : TypeId} (ht : t ∈ ts) {w : World} {r : Reach} {b : Nat} {v : Value} (hok : Value.okWide P w r b t v) {xs : List AV}
    (hh : has P n t xs) (hr : VRelL m xs v.cells.toList) : ∃ y, isOf P (has P n) t y ∧ VRel m y v := by
  have hty := tysOk_at hts ht
  cases hagg : tyAgg P t with
  | true =>
    have : ∃ cs, v = .agg cs := by
      unfold Value.okWide at hok
      unfold tyOk at hty
      unfold tyAgg at hagg
      split at hty <;> first | (cases hty; done) | (rename_i hu; rw [hu] at hok hagg; first | (obtain ⟨cs, rfl, _⟩ := hok; exact ⟨cs, rfl⟩) | cases hagg)
    obtain ⟨cs, rfl⟩ := this
    exact ⟨.agg xs, .inl ⟨hagg, xs, rfl, hh⟩, by simp only [VRel]; exact ⟨cs, rfl, hr⟩⟩
  | false =>
    have hv : VCells v = [v] := by
      unfold Value.okWide at hok
      unfold tyOk at hty
      unfold tyAgg at hagg
      split at hty <;>
        first
        | (cases hty; done)
        | (rename_i hu; rw [hu] at hok hagg; first | (simp at hagg; done) | (cases v <;> first | rfl | (simp [Cell.okWide, Cell.ok, hu] at hok)))
    rw [show v.cells.toList = [v] from hv] at hr
    match xs, hr with
    | [x], hr =>
      simp only [VRelL] at hr
      obtain ⟨v', vs, e, hx, e'⟩ := hr
      subst e'
      simp only [List.cons.injEq, and_true] at e
      subst e
      exact ⟨x, .inr ⟨hagg, hh⟩, hx⟩
    | [], hr => simp [VRelL] at hr
    | _ :: _ :: _, hr =>
      simp only [VRelL] at hr
      obtain ⟨v', vs, e, hx, v'', vs', e', _⟩ := hr
      subst e'
      simp at e

theorem trodAll_has {H : Type} {enc : TypeId × Value → H} {P : Program} {w : World} {ts : List TypeId} (hts : tysOk P ts = true) {b : Nat} :
    ∀ (ps : List TypeId) (vs : List Value) (ds : List (DataW H)) (pl : List MemPlace), (∀ t ∈ ps, t ∈ ts) → DataW.TrodAll enc P w 0 (fun _ => true) true ps vs ds pl →
      (∀ (j : Nat) t v, ps[j]? = some t → vs[j]? = some v → Value.okWide P w .any b t v) → ∃ xs, VRelL (mOf w) xs vs ∧ hasAll P ps xs ∧ ds.length = ps.length
  | [], vs, ds, pl, _, h, _ => by
    obtain ⟨rfl, rfl, rfl⟩ := trodAll_nil h
    exact ⟨[], .nil, by simp [hasAll], rfl⟩
  | t :: ps, vs, ds, pl, hm, h, hv => by
    obtain ⟨v, vs1, d, ds1, p, q, rfl, rfl, rfl, ⟨n, h1⟩, h2⟩ := trodAll_cons h
    obtain ⟨xs, k1, k2, k3⟩ := trodAll_has hts ps vs1 ds1 q (fun t ht => hm t (List.mem_cons_of_mem _ ht)) h2 (fun j t u e1 e2 => hv (j + 1) t u (by simpa using e1) (by simpa using e2))
    obtain ⟨cs, j1, j2, j3⟩ := trod_has hts n t _ _ (hm t (by simp)) h1
    obtain ⟨y, q1, q2⟩ := value_box hts (hm t (by simp)) (hv 0 t v (by simp) (by simp)) j2 j1
    exact ⟨y :: xs, .cons q2 k1, by simp only [hasAll]; exact ⟨⟨n, q1⟩, k2⟩, by simp [k3]⟩

theorem below_of_step {w w' : World} {m' : M} {h' : Heap} (s : Step w.heap.size (mOf w) [] w m' h' w') : Below w.heap.size w w' where
  os := s.os
  tape := s.tape
  output := s.output
  size := s.size
  block := fun k hk => s.frame k hk (fun ht => by rcases ht with ⟨i, cs, e, _⟩ | ⟨i, n, sz, a, cap, e, _⟩ <;> simp at e)

theorem trodAll_stays {H : Type} {enc : TypeId × Value → H} {P : Program} {W W' : World} (hl : laidOutB P = true) (hb : Below W.heap.size W W') {sp : Nat → Bool} : ∀ (ps : List TypeId) (vs : List Value) (ds : List (DataW H)) (pl : List MemPlace),
    (ps.all fun t => P.readableRec t && decide (t < P.types.size)) = true → (∀ p ∈ pl, p.block < W.heap.size) → (∀ p ∈ pl, sp p.block = true) → DataW.TrodAll enc P W 0 (fun _ => true) true ps vs ds pl → DataW.TrodAll enc P W' 0 sp true ps vs ds pl
  | [], vs, ds, pl, _, _, _, h => by
    obtain ⟨rfl, rfl, rfl⟩ := trodAll_nil h
    rfl
  | t :: ps, vs, ds, pl, ha, hlt, hsp, h => by
    obtain ⟨v, vs1, d, ds1, p, q, rfl, rfl, rfl, h1, h2⟩ := trodAll_cons h
    simp only [List.all_cons, Bool.and_eq_true, decide_eq_true_eq] at ha
    exact ⟨p, q, WideElems.Trod_stays hl ha.1.1 ha.1.2 h1 (fun x hx => hb.same (hlt x (by simp [hx]))) (fun x hx => hsp x (by simp [hx])),
      trodAll_stays hl hb ps vs1 ds1 q ha.2 (fun x hx => hlt x (by simp [hx])) (fun x hx => hsp x (by simp [hx])) h2, rfl⟩

/-- **A law's contract**: the evaluator answers true at every argument. -/
theorem law_contract {C : Cfg} (hC : CfgOk C) (hB : BodiesOk C) (hmix : C.P.follows .mixedOrders = true) (hl : laidOutB C.P = true) {H : Type} {enc : TypeId × Value → H} {f : FuncId} {fn : Func} {s : ChangeSpec} {fresh handsOn : Bool} {tb : TypeId}
    (hvars : s.vars = []) (hres : fn.resultTypes = #[tb]) (htb : C.P.underlying tb = some .bool) {ts : List TypeId} (hts : tysOk C.P ts = true)
    (hps : (fn.params.toList.all fun t => ts.contains t && C.P.readableRec t && decide (t < C.P.types.size)) = true)
    (hs : ∀ ds : List (DataW H), ds.length = fn.params.toList.length → (s.fn H ds).results = [.lit (.bool true)] ∧ (s.fn H ds).args = ds ∧ (s.fn H ds).vars = [])
    (hev : ∀ xs, hasAll C.P fn.params.toList xs → ∃ k h d, evalF C k f xs [] = some (.bool true, h, d))
    (W : World) (base : Nat) (args : Array Value) (ds gs : List (DataW H)) (before : List MemPlace)
    (hval : ∀ (j : Nat) t v, fn.params[j]? = some t → args[j]? = some v → Value.okWide C.P W .any base t v)
    (hW : DataW.Whole enc C.P fn.params.toList s.vars false W args.toList ds gs before) :
    Calls C.P f args W fun e W' => ∃ v, e = .returned v ∧ s.post enc C.P fn false fresh handsOn false W args v W' := by
  have hW' := hW
  obtain ⟨p, q, hA, hV, rfl, hfz, hnd⟩ := hW'
  rw [hvars] at hV
  obtain ⟨rfl, rfl⟩ := trodVars_none hV
  have hall := List.all_eq_true.1 hps
  have hmem : ∀ t ∈ fn.params.toList, t ∈ ts := fun t ht => by have := hall t ht; simp only [Bool.and_eq_true, List.contains_iff_mem] at this; exact this.1.1
  have hrd : (fn.params.toList.all fun t => C.P.readableRec t && decide (t < C.P.types.size)) = true := by
    rw [List.all_eq_true]
    intro t ht
    have := hall t ht
    simp only [Bool.and_eq_true] at this
    simp only [Bool.and_eq_true]
    exact ⟨this.1.2, this.2⟩
  obtain ⟨xs, k1, k2, k3⟩ := trodAll_has hts fn.params.toList args.toList ds p hmem hA (fun j t v e1 e2 => hval j t v (by simpa using e1) (by simpa using e2))
  obtain ⟨k, h, d, he⟩ := hev xs k2
  obtain ⟨hc, _⟩ := evalF_ok hC hB hmix k f xs [] _ _ _ he (mOf W) W args (inv_mOf W) k1
  refine hc.mono ?_
  rintro e W' ⟨u, rfl, m', st, hu⟩
  simp only [VRel] at hu
  subst hu
  have hb := below_of_step st
  obtain ⟨s1, s2, s3⟩ := hs (ds ++ []) (by simpa using k3)
  rw [List.append_nil] at s1 s2 s3
  simp only [List.append_nil] at hW hfz
  refine ⟨_, rfl, ds, [], p, [], p, [], hW, ?_, ?_, ?_, hb.frame _, fun h => by cases h⟩
  · rw [List.append_nil, s1, hres]
    exact trodAll_mk1 (shut_bool htb true)
  · rw [List.append_nil, s2]
    exact trodAll_stays hl hb _ _ _ _ hrd (fun x hx => hW.lt x hx) (fun x hx => by simpa using hW.lt x hx) hA
  · rw [List.append_nil, s3, hvars]
    rfl

end Go.Proofs.Ytnifldbmflkmpaa.Ev
