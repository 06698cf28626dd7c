/-
  append and make.
-/
import Derived.Test.YtnifldbmflkmpaaEvJ
namespace Go.Proofs.Ytnifldbmflkmpaa.Ev
open Go
set_option linter.unusedVariables false
set_option linter.unusedSimpArgs false

theorem one_cells {v : Value} (h : v.oneCell' = true) : VCells v = [v] := by
  cases v <;> first | rfl | (simp [Value.oneCell'] at h)

theorem elems_run {P : Program} {m : M} {h : Heap} {w : World} (hi : Inv m h w) {n : Nat} {src : AV} {ys : List AV} (he : elemsA h n src = some ys) {u : Value} (hx : VRel m src u) :
    ∃ cys : List Value, VRelL m ys cys ∧ (∀ v ∈ cys, (VCells v).length = n) ∧ (∀ c ∈ cys.flatMap VCells, c.oneCell' = true) ∧
      ∀ w' : World, w'.heap = w.heap → (Builtin.lenOf u).run P w' = .ok ys.length w' ∧ (Builtin.firstCells n ys.length u).run P w' = .ok (cys.flatMap VCells).toArray w' := by
  unfold elemsA at he
  split at he
  · simp only [Option.some.injEq] at he; subst he
    simp only [VRel] at hx; subst hx
    exact ⟨[], .nil, by simp, by simp, fun w' _ => ⟨by simp [Builtin.lenOf], by simp [Builtin.firstCells]⟩⟩
  · rename_i xs nn cap tok
    split at he
    · rename_i hok
      simp only [Option.some.injEq] at he; subst he
      simp only [VRel] at hx
      rcases hx with ⟨rfl, _, _, _, rfl⟩ | ⟨a, cap', cvs, s, rfl, g2, g3, g4, g5, g6, g7, g8⟩
      · exact ⟨[], .nil, by simp, by simp, fun w' _ => ⟨by simp [Builtin.lenOf], by simp [Builtin.firstCells]⟩⟩
      · have hl := g4.length
        refine ⟨cvs, g4, ?_, ?_, fun w' hw' => ⟨by simp [Builtin.lenOf], ?_⟩⟩
        · rcases headOk_spec g4 g5 hok with h0 | rfl
          · subst h0
            simp only [VRelL] at g4
            subst g4
            simp
          · exact g5
        · intro c hc
          obtain ⟨i, hic⟩ := List.mem_iff_getElem?.1 hc
          exact hi.fone _ _ (g6 i c hic)
        · have hsn : (cvs.flatMap VCells).length = xs.length * n := by
            rw [flatMap_length cvs g5, hl]
            rcases headOk_spec g4 g5 hok with h0 | rfl
            · subst h0; simp
            · rfl
          have := run_loadCells_list (P := P) w' a (cvs.flatMap VCells) (fun j v hv => by
            rw [Addr.add_none a (spot_of g2 g3 g4 hv), cell?_heap hw']; exact hi.f _ _ (g6 j v hv))
          rw [hsn] at this
          simpa [Builtin.firstCells] using this
    · cases he
  · rename_i s
    split at he
    · rename_i hn
      subst hn
      simp only [Option.some.injEq] at he; subst he
      simp only [VRel] at hx
      obtain ⟨b, rfl, rfl⟩ := hx
      have h1 : ∀ v ∈ b.data.toList.map (fun c => Value.int .u8 (c.toNat : Int)), VCells v = [v] := by
        intro v hv; obtain ⟨c, _, rfl⟩ := List.mem_map.1 hv; rfl
      refine ⟨_, ofBytes_rel _, ?_, ?_, fun w' _ => ⟨?_, ?_⟩⟩
      · intro v hv; rw [h1 v hv]; rfl
      · rw [flatMap_one _ h1]; intro v hv; obtain ⟨c, _, rfl⟩ := List.mem_map.1 hv; rfl
      · simp [Builtin.lenOf, ofBytes]
      · rw [flatMap_one _ h1]
        simp only [Builtin.firstCells, Sem.run_pure]
        have e1 : (ofBytes b.data.toList).length = b.size := by simp [ofBytes]
        rw [e1]
        congr 1
        apply Array.ext'
        simp [Lib.extract_data]
    · cases he
  · rename_i b o len cap
    split at he
    · rename_i cs hb
      split at he
      · rename_i hc
        simp only [Bool.and_eq_true, beq_iff_eq, decide_eq_true_eq] at hc
        obtain ⟨rfl, hle⟩ := hc
        simp only [Option.some.injEq] at he; subst he
        simp only [VRel] at hx
        obtain ⟨c, hm, rfl⟩ := hx
        obtain ⟨c', cvs, t', k1, k2, k3, k4, k5⟩ := hi.var b cs hb
        rw [hm] at k1
        cases k1
        have hcl := k3.length
        have hone : ∀ v ∈ (cvs.toList.drop o).take len, v.oneCell' = true := fun v hv => k5 v (List.mem_of_mem_drop (List.mem_of_mem_take hv))
        have hlen : ((cs.drop o).take len).length = len := by simp; omega
        refine ⟨_, (k3.drop o).take len, ?_, ?_, fun w' hw' => ⟨?_, ?_⟩⟩
        · intro v hv; rw [one_cells (hone v hv)]; rfl
        · rw [flatMap_one _ (fun v hv => one_cells (hone v hv))]; exact hone
        · simp [Builtin.lenOf]; omega
        · rw [flatMap_one _ (fun v hv => one_cells (hone v hv)), hlen]
          have := run_loadCells_list (P := P) w' ⟨c, o, none⟩ ((cvs.toList.drop o).take len) (fun j v hv => by
            rw [Addr.add_mid, cell?_heap hw', cell_row k2]
            rw [List.getElem?_take] at hv
            split at hv
            · simpa using hv
            · cases hv)
          have hl2 : ((cvs.toList.drop o).take len).length = len := by simp at hcl ⊢; omega
          rw [hl2] at this
          simpa [Builtin.firstCells] using this
      · cases he
    · cases he
  · cases he

/-- Room enough (or nothing to append). -/
theorem run_append_in {P : Program} {w w' : World} {t u ty e : TypeId} {ud : TypeDesc} (ht : P.underlying t = some (.slice e)) (hu : P.underlying u = some ud) (hni : ud = .string ∨ ∃ e', ud = .slice e') {n : Nat} (hn : tySize P e = some n)
    {base : Option Addr} {sLen sCap k : Nat} {x : Value} {news : List Value} (hl : (Builtin.lenOf x).run P w = .ok k w) (hf : (Builtin.firstCells n k x).run P w = .ok news.toArray w)
    (hroom : sLen + k ≤ sCap) (hst : ∀ a, base = some a → (storeCells (a.add (sLen * n)) news).run P w = .ok () w') (hb : base = none → w' = w) :
    (Builtin.append_ #[t, u] ty #[.slice base sLen sCap, x]).run P w = .ok (.slice base (sLen + k) sCap) w' := by
  cases base with
  | none =>
    have := hb rfl
    subst this
    rcases hni with rfl | ⟨e', rfl⟩ <;> simp [Builtin.append_, run_underlying ht, run_underlying hu, run_sizeOf' hn, hl, hf, hroom]
  | some a =>
    have := hst a rfl
    rcases hni with rfl | ⟨e', rfl⟩ <;> simp [Builtin.append_, run_underlying ht, run_underlying hu, run_sizeOf' hn, hl, hf, hroom, this]

/-- No room: a new row. -/
theorem run_append_out {P : Program} {w : World} {t u ty e : TypeId} {ud : TypeDesc} (ht : P.underlying t = some (.slice e)) (hu : P.underlying u = some ud) (hni : ud = .string ∨ ∃ e', ud = .slice e') {i : TypeInfo} {z : Value} (hi : P.info? e = some i) (hz : i.zero = some z)
    {base : Option Addr} {sLen sCap k : Nat} {x : Value} {olds news : List Value} (hl : (Builtin.lenOf x).run P w = .ok k w) (hf : (Builtin.firstCells i.size k x).run P w.drew = .ok news.toArray w.drew)
    (ho : (Builtin.firstCells i.size sLen (.slice base sLen sCap)).run P w.drew = .ok olds.toArray w.drew)
    (hroom : sCap < sLen + k) (h63 : sLen + k ≤ 9223372036854775807) (hfit : Builtin.nextslicecap (sLen + k) sCap * i.bytes ≤ 281474976710656) :
    (Builtin.append_ #[t, u] ty #[.slice base sLen sCap, x]).run P w =
      .ok (.slice (some ⟨w.heap.size, 0, none⟩) (sLen + k) (grownCap w (sLen + k) sCap e))
        (w.drew.alloc (.cells (olds.toArray ++ (news.toArray ++ Builtin.zeroCells z.cells (grownCap w (sLen + k) sCap e - (sLen + k)))) e)) := by
  have hn : ¬ (sLen + k ≤ sCap) := by omega
  have h63' : ¬ (9223372036854775807 < ((sLen : Int) + (k : Int))) := by omega
  have h48' : ¬ (281474976710656 < Builtin.nextslicecap (sLen + k) sCap * i.bytes) := by omega
  rcases hni with rfl | ⟨e', rfl⟩ <;> simp [Builtin.append_, run_underlying ht, run_underlying hu, sizeOf, typeInfo, zeroValue, hi, hz, hl, hn, h63', h48', Question.forced, hf, ho, newRow, grownCap, IntKind.max, IntKind.signed, IntKind.bits]

theorem VRelL.flat {m : M} {xs : List AV} {cvs : List Value} (h : VRelL m xs cvs) : cvs.length = xs.length := h.length

/-- The list's own cells, as append reads them. -/
theorem firstCells_list {P : Program} {m : M} {h : Heap} {w : World} (hi : Inv m h w) {xs : List AV} {cvs : List Value} {s n : Nat} {a : Addr} {cap' : Nat} (g2 : cap' ≠ 0 → a.spot = none) (g3 : xs.length ≤ cap') (g4 : VRelL m xs cvs)
    (g5 : ∀ cv ∈ cvs, (VCells cv).length = s) (g6 : CellsF m.F a (cvs.flatMap VCells)) (hok : headOk n xs = true) {w' : World} (hw : w'.heap = w.heap) :
    (Builtin.firstCells n xs.length (.slice (some a) xs.length cap')).run P w' = .ok (cvs.flatMap VCells).toArray w' ∧ (cvs.flatMap VCells).length = xs.length * n := by
  have hl := g4.length
  have hsn : (cvs.flatMap VCells).length = xs.length * n := by
    rw [flatMap_length cvs g5, hl]
    rcases headOk_spec g4 g5 hok with h0 | rfl
    · subst h0; simp
    · rfl
  have := run_loadCells_list (P := P) w' a (cvs.flatMap VCells) (fun j v hv => by
    rw [Addr.add_none a (spot_of g2 g3 g4 hv), cell?_heap hw]; exact hi.f _ _ (g6 j v hv))
  rw [hsn] at this
  exact ⟨by simpa [Builtin.firstCells] using this, hsn⟩

theorem grown_bound (w : World) (need old : Nat) (e : TypeId) : need ≤ grownCap w need old e := grownCap_ge w need old e

/-- A list that has been copied to a new row reads as what was copied. -/
theorem rel_moved {m' : M} {xs : List AV} {cvs : List Value} {n cap τ c : Nat} (hr : VRelL m' xs cvs) (hs : ∀ v ∈ cvs, (VCells v).length = n) {arr : List Value} (hc : CellsF m'.F ⟨c, 0, none⟩ (arr.take (xs.length * n)))
    (ha : arr.take (xs.length * n) = cvs.flatMap VCells) (hle : xs.length ≤ cap) (hrho : m'.rho τ xs.length = some (⟨c, 0, none⟩, cap)) :
    VRel m' (.list xs true none (some τ)) (.slice (some ⟨c, 0, none⟩) xs.length cap) := by
  simp only [VRel]
  refine .inr ⟨⟨c, 0, none⟩, cap, cvs, n, rfl, fun _ => rfl, hle, hr, hs, by rw [← ha]; exact hc, by simp, ?_⟩
  intro τ' hτ
  simp only [Option.some.injEq] at hτ
  subst hτ
  exact hrho

theorem appendA_ok {P : Program} {m : M} {h h' : Heap} {w : World} (hi : Inv m h w) {ts : Array TypeId} {ty : TypeId} {dst src z : AV} {wr : Option Nat} (he : appendA P ts.toList h dst src = some (z, h', wr))
    {u v : Value} (hx : VRel m dst u) (hy : VRel m src v) :
    (∃ r w' m', (Builtin.append_ ts ty #[u, v]).run P w = .ok r w' ∧ Step w.heap.size m h w m' h' w' ∧ VRel m' z r) ∧ (∀ i, wr ≠ some i → i < h.length → h'[i]? = h[i]?) ∧ h.length ≤ h'.length := by
  unfold appendA at he
  split at he
  case h_2 => cases he
  rename_i t t2 hts
  have hts' : ts = #[t, t2] := by apply Array.ext'; rw [hts]
  subst hts'
  split at he
  case h_2 => cases he
  rename_i e ud ht hu
  split at he
  · cases he
  rename_i hud
  have hud' : ud = .string ∨ ∃ e', ud = .slice e' := by
    cases ud <;> simp [appendable] at hud ⊢
  split at he
  case h_2 => cases he
  rename_i n by_ z0 hn hby hz0
  obtain ⟨i, zv, q1, q2, q3⟩ := tyZero_spec hz0
  obtain ⟨i', q1', hsz⟩ := tySize_spec hn
  rw [q1] at q1'
  cases q1'
  have hbytes : i.bytes = by_ := by unfold tyBytes at hby; simp [q1] at hby; exact hby
  split at he
  case h_2 => cases he
  rename_i ys hys
  split at he
  · cases he
  rename_i hzl
  have hzs : zv.cells.size = n := by have := VCells_length (q3 m); simp only [VCells, Array.length_toList] at this; omega
  obtain ⟨cys, e1, e2, e3, e4⟩ := elems_run (P := P) hi hys hy
  have hcl := e1.length
  have hfl := flatMap_length cys e2
  have hzc : ∀ k, (Builtin.zeroCells zv.cells k).size = k * n := fun k => by simp [Builtin.zeroCells, hzs]
  split at he
  · -- nil
    simp only [VRel] at hx
    subst hx
    split at he
    · rename_i hemp
      simp only [Option.some.injEq, Prod.mk.injEq] at he
      obtain ⟨rfl, rfl, rfl⟩ := he
      have hy0 : ys = [] := by simpa using hemp
      subst hy0
      obtain ⟨l1, l2⟩ := e4 w rfl
      have := run_append_in (P := P) (w := w) (w' := w) (ty := ty) ht hu hud' hn l1 l2 (sLen := 0) (sCap := 0) (base := none) (by simp) (by simp) (by simp)
      exact ⟨⟨_, w, m, this, Step.refl hi, by simp only [VRel]; simp⟩, fun _ _ _ => rfl, Nat.le_refl _⟩
    · rename_i hemp
      split at he
      · rename_i hb
        simp only [Option.some.injEq, Prod.mk.injEq] at he
        obtain ⟨rfl, rfl, rfl⟩ := he
        refine ⟨?_, fun i _ hi' => by rw [List.getElem?_append_left hi'], by simp⟩
        have hpos : 0 < ys.length := by cases ys <;> simp at hemp ⊢
        obtain ⟨l1, _⟩ := e4 w rfl
        obtain ⟨_, l2⟩ := e4 w.drew rfl
        have hrun := run_append_out (P := P) (w := w) (ty := ty) ht hu hud' q1 q2 (base := none) (sLen := 0) (sCap := 0) (olds := []) l1 (by rw [hsz]; exact l2) (by simp [Builtin.firstCells]) (by omega) (by omega)
          (growslice_fits (by omega) (by rw [hbytes, Nat.zero_add]; omega))
        simp only [Nat.zero_add] at hrun
        have hge := grownCap_ge w ys.length 0 e
        have s0 := Step.same (B := w.heap.size) hi (w' := w.drew) rfl rfl rfl rfl
        obtain ⟨arr, harr⟩ : ∃ arr : Array Value, arr = ([] : List Value).toArray ++ ((cys.flatMap VCells).toArray ++ Builtin.zeroCells zv.cells (grownCap w ys.length 0 e - ys.length)) := ⟨_, rfl⟩
        rw [← harr] at hrun
        have htk : arr.toList.take (ys.length * n) = cys.flatMap VCells := by
          rw [harr]
          simp only [Array.toList_append, List.nil_append]
          rw [List.take_append_of_le_length (by simp [hfl, hcl])]
          exact List.take_of_length_le (by simp [hfl, hcl])
        have hasz : arr.size = grownCap w ys.length 0 e * n := by
          rw [harr]
          simp only [Array.size_append, hzc, List.size_toArray, hfl, hcl, List.length_nil, Nat.zero_add, ← Nat.add_mul]
          congr 1; omega
        obtain ⟨m', s1, hc, hr⟩ := Step.newList s0.inv arr e (0, 0) ys.length n (grownCap w ys.length 0 e) hge hasz (fun j _ => by simp) (by rw [htk]; exact e3)
        exact ⟨_, _, m', hrun, s0.trans s1, rel_moved (VRelL.mono (s0.trans s1).le _ _ e1) e2 hc htk hge hr⟩
      · cases he
  · rename_i xs nn cap tok
    split at he
    · rename_i hemp
      simp only [Option.some.injEq, Prod.mk.injEq] at he
      obtain ⟨rfl, rfl, rfl⟩ := he
      have hy0 : ys = [] := by simpa using hemp
      subst hy0
      simp only [VRelL] at e1
      subst e1
      obtain ⟨l1, l2⟩ := e4 w rfl
      have hx' := hx
      simp only [VRel] at hx
      rcases hx with ⟨rfl, _, _, _, rfl⟩ | ⟨a, cap', cvs, s, rfl, g2, g3, g4, g5, g6, g7, g8⟩
      · have := run_append_in (P := P) (w := w) (w' := w) (ty := ty) ht hu hud' hn l1 l2 (sLen := 0) (sCap := 0) (base := none) (by simp) (by simp) (by simp)
        exact ⟨⟨_, w, m, this, Step.refl hi, by simpa using hx'⟩, fun _ _ _ => rfl, Nat.le_refl _⟩
      · have := run_append_in (P := P) (w := w) (w' := w) (ty := ty) ht hu hud' hn l1 l2 (sLen := xs.length) (sCap := cap') (base := some a) (by simpa using g3) (by intro a' _; simp [storeCells]) (by simp)
        exact ⟨⟨_, w, m, this, Step.refl hi, by simpa using hx'⟩, fun _ _ _ => rfl, Nat.le_refl _⟩
    · rename_i hemp
      have hpos : 0 < ys.length := by cases ys <;> simp at hemp ⊢
      split at he
      · cases he
      rename_i hb
      have hb' : (xs.length + ys.length) * by_ ≤ 35184372088832 ∧ xs.length + ys.length ≤ 35184372088832 := Classical.not_not.1 hb
      split at he
      · cases he
      rename_i hok
      have hok' : headOk n xs = true := by cases hh : headOk n xs <;> simp_all
      obtain ⟨l1, l1'⟩ := e4 w rfl
      obtain ⟨_, l2⟩ := e4 w.drew rfl
      -- the growing row, for whatever becomes of the right
      have grow : ∀ (a : Addr) (cap' s : Nat) (cvs : List Value), (cap' ≠ 0 → a.spot = none) → xs.length ≤ cap' → VRelL m xs cvs → (∀ cv ∈ cvs, (VCells cv).length = s) → CellsF m.F a (cvs.flatMap VCells) → cap' < xs.length + ys.length →
          ∃ arr : Array Value, (Builtin.append_ #[t, t2] ty #[.slice (some a) xs.length cap', v]).run P w = .ok (.slice (some ⟨w.heap.size, 0, none⟩) (xs ++ ys).length (grownCap w (xs.length + ys.length) cap' e)) (w.drew.alloc (.cells arr e)) ∧
            arr.size = grownCap w (xs.length + ys.length) cap' e * n ∧ arr.toList.take ((xs ++ ys).length * n) = (cvs ++ cys).flatMap VCells ∧ (∀ c ∈ (cvs ++ cys).flatMap VCells, c.oneCell' = true) ∧ ∀ cv ∈ cvs ++ cys, (VCells cv).length = n := by
        intro a cap' s cvs g2 g3 g4 g5 g6 hlt
        obtain ⟨o1, o2⟩ := firstCells_list (P := P) (cap' := cap') hi g2 g3 g4 g5 g6 hok' (w' := w.drew) rfl
        have hrun := run_append_out (P := P) (w := w) (ty := ty) ht hu hud' q1 q2 (base := some a) (sLen := xs.length) (sCap := cap') l1 (by rw [hsz]; exact l2) (by rw [hsz]; exact o1) hlt (by omega)
          (growslice_fits hlt (by rw [hbytes]; omega))
        have hge := grownCap_ge w (xs.length + ys.length) cap' e
        refine ⟨_, by rw [List.length_append]; exact hrun, ?_, ?_, ?_, ?_⟩
        · simp only [Array.size_append, hzc, List.size_toArray, hfl, hcl, o2, ← Nat.add_mul]
          congr 1; omega
        · simp only [Array.toList_append, List.flatMap_append, List.length_append]
          rw [← List.append_assoc, List.take_append_of_le_length (by simp [hfl, hcl, o2, Nat.add_mul])]
          exact List.take_of_length_le (by simp [hfl, hcl, o2, Nat.add_mul])
        · intro c hc
          simp only [List.flatMap_append, List.mem_append] at hc
          rcases hc with hc | hc
          · obtain ⟨j, hj⟩ := List.mem_iff_getElem?.1 hc
            exact hi.fone _ _ (g6 j c hj)
          · exact e3 c hc
        · intro cv hcv
          rcases List.mem_append.1 hcv with hcv | hcv
          · rcases headOk_spec g4 g5 hok' with h0 | rfl
            · subst h0
              simp only [VRelL] at g4
              subst g4
              cases hcv
            · exact g5 cv hcv
          · exact e2 cv hcv
      simp only [VRel] at hx
      split at he
      · rename_i hcap
        simp only [Option.some.injEq, Prod.mk.injEq] at he
        obtain ⟨rfl, rfl, rfl⟩ := he
        refine ⟨?_, fun i _ hi' => by rw [List.getElem?_append_left hi'], by simp⟩
        rcases hx with ⟨rfl, _, _, _, rfl⟩ | ⟨a, cap', cvs, s, rfl, g2, g3, g4, g5, g6, g7, g8⟩
        · have hrun := run_append_out (P := P) (w := w) (ty := ty) ht hu hud' q1 q2 (base := none) (sLen := 0) (sCap := 0) (olds := []) l1 (by rw [hsz]; exact l2) (by simp [Builtin.firstCells]) (by omega) (by simp at hb'; omega)
            (growslice_fits (by omega) (by rw [hbytes, Nat.zero_add]; have := hb'.1; simp only [List.length_nil, Nat.zero_add] at this; omega))
          simp only [Nat.zero_add, List.nil_append, List.length_nil] at hrun ⊢
          have hge := grownCap_ge w ys.length 0 e
          have s0 := Step.same (B := w.heap.size) hi (w' := w.drew) rfl rfl rfl rfl
          obtain ⟨arr, harr⟩ : ∃ arr : Array Value, arr = ([] : List Value).toArray ++ ((cys.flatMap VCells).toArray ++ Builtin.zeroCells zv.cells (grownCap w ys.length 0 e - ys.length)) := ⟨_, rfl⟩
          rw [← harr] at hrun
          have htk : arr.toList.take (ys.length * n) = cys.flatMap VCells := by
            rw [harr]
            simp only [Array.toList_append, List.nil_append]
            rw [List.take_append_of_le_length (by simp [hfl, hcl])]
            exact List.take_of_length_le (by simp [hfl, hcl])
          have hasz : arr.size = grownCap w ys.length 0 e * n := by
            rw [harr]
            simp only [Array.size_append, hzc, List.size_toArray, hfl, hcl, List.length_nil, Nat.zero_add, ← Nat.add_mul]
            congr 1; omega
          obtain ⟨m', s1, hc, hr⟩ := Step.newList s0.inv arr e (0, 0) ys.length n (grownCap w ys.length 0 e) hge hasz (fun j _ => by simp) (by rw [htk]; exact e3)
          exact ⟨_, _, m', hrun, s0.trans s1, rel_moved (VRelL.mono (s0.trans s1).le _ _ e1) e2 hc htk hge hr⟩
        · have hce := g7 xs.length hcap
          obtain ⟨arr, hrun, a1, a2, a3, a4⟩ := grow a cap' s cvs g2 g3 g4 g5 g6 (by omega)
          have hge := grownCap_ge w (xs.length + ys.length) cap' e
          have s0 := Step.same (B := w.heap.size) hi (w' := w.drew) rfl rfl rfl rfl
          obtain ⟨m', s1, hc, hr⟩ := Step.newList s0.inv arr e (0, 0) (xs.length + ys.length) n _ hge a1 (fun j _ => by simp) (by rw [← List.length_append, a2]; exact a3)
          exact ⟨_, _, m', hrun, s0.trans s1, rel_moved ((VRelL.mono (s0.trans s1).le _ _ g4).append (VRelL.mono (s0.trans s1).le _ _ e1)) a4 (by rw [List.length_append]; exact hc) a2 (by rw [List.length_append]; exact hge) (by rw [List.length_append]; exact hr)⟩
      · rename_i hcap
        split at he
        case h_2 => cases he
        rename_i τ
        split at he
        case h_2 => cases he
        rename_i k sz hτ
        split at he
        case isFalse => cases he
        rename_i hk
        obtain ⟨rfl, rfl⟩ := hk
        simp only [Option.some.injEq, Prod.mk.injEq] at he
        obtain ⟨rfl, rfl, rfl⟩ := he
        refine ⟨?_, fun i hne _ => by rw [List.getElem?_set_ne (fun e => hne (by rw [e]))], by simp⟩
        rcases hx with ⟨_, _, _, hc0, _⟩ | ⟨a, cap', cvs, s, rfl, g2, g3, g4, g5, g6, g7, g8⟩
        · cases hc0
        · have hrho := g8 τ rfl
          by_cases hroom : xs.length + ys.length ≤ cap'
          · -- in place
            obtain ⟨a', ca, r1, r2⟩ := hi.own τ _ _ hτ
            rw [hrho] at r1
            cases r1
            have hmul : xs.length * sz + ys.length * sz ≤ cap' * sz := by rw [← Nat.add_mul]; exact Nat.mul_le_mul_right _ hroom
            have hst := run_storeCells_cells (P := P) a.block (a.off + xs.length * sz) (cys.flatMap VCells) 0 w (fun j hj => by
                obtain ⟨⟨v, hv⟩, _, _⟩ := r2.cell (xs.length * sz + j) (by omega) (by rw [hfl, hcl] at hj; omega)
                rw [show a.off + xs.length * sz + 0 + j = a.off + (xs.length * sz + j) by omega, hv]; rfl) (fun j hj => by
                obtain ⟨_, hz, _⟩ := r2.cell (xs.length * sz + j) (by omega) (by rw [hfl, hcl] at hj; omega)
                rw [show a.off + xs.length * sz + 0 + j = a.off + (xs.length * sz + j) by omega]; exact hz) e3
            simp only [Nat.add_zero] at hst
            have hrun := run_append_in (P := P) (w := w) (w' := w.setCells a.block (a.off + xs.length * sz) (cys.flatMap VCells)) (ty := ty) ht hu hud' hn l1 l1' (sLen := xs.length) (sCap := cap') (base := some a) hroom
              (by intro a' ha; cases ha; rw [Addr.add_none a r2.spot]; exact hst) (by simp)
            have s1 := Step.setSpare (B := w.heap.size) hi hτ hrho (cys.flatMap VCells) (by rw [hfl, hcl]; exact hmul)
            obtain ⟨a'', ca', r3, r4⟩ := s1.inv.own τ _ _ hτ
            rw [hrho] at r3
            cases r3
            have hle2 : xs.length * sz ≤ (xs.length + ys.length) * sz := Nat.mul_le_mul_right _ (by omega)
            have s2 := Step.retok (B := w.heap.size) s1.inv τ xs.length sz (xs.length + ys.length) hτ (by omega) a cap'
              ⟨r4.spot, hroom, fun j j1 j2 => r4.cell j (by omega) j2, r4.lt, r4.var⟩ (.inr ⟨a, cap', hrho, rfl⟩)
              (fun i k tz b cb hne e0 e1' => s1.inv.apart i τ k xs.length tz sz b a cb cap' e0 hτ e1' hrho hne)
            let G : Addr → Option Value := fun x => if x.block = a.block ∧ x.spot = none ∧ a.off + xs.length * sz ≤ x.off then (cys.flatMap VCells)[x.off - (a.off + xs.length * sz)]? else none
            have hG : ∀ x u, G x = some u → x.block = a.block ∧ x.spot = none ∧ a.off + xs.length * sz ≤ x.off ∧ (cys.flatMap VCells)[x.off - (a.off + xs.length * sz)]? = some u := by
              intro x u hx
              simp only [G] at hx
              split at hx
              · rename_i hc; exact ⟨hc.1, hc.2.1, hc.2.2, hx⟩
              · cases hx
            have hτ2 : (h.set τ (.own (xs.length + ys.length) sz))[τ]? = some (.own (xs.length + ys.length) sz) := by
              rw [List.getElem?_set_self (List.getElem?_eq_some_iff.1 hτ).1]
            have s3 := Step.fro (B := w.heap.size) s2.inv G (by
                intro x u hx
                obtain ⟨c1, c2, c3, c4⟩ := hG x u hx
                obtain ⟨b, o, sp⟩ := x
                simp only at c1 c2 c3 c4
                subst c1 c2
                rw [List.getElem?_eq_some_iff] at c4
                obtain ⟨c4, c5⟩ := c4
                have := World.cell?_setCells_in a.block (cys.flatMap VCells) (a.off + xs.length * sz) w (fun j hj => by
                  obtain ⟨⟨v, hv⟩, _, _⟩ := r2.cell (xs.length * sz + j) (by omega) (by rw [hfl, hcl] at hj; omega)
                  rw [show a.off + xs.length * sz + j = a.off + (xs.length * sz + j) by omega, hv]; rfl) _ c4
                rw [show a.off + xs.length * sz + (o - (a.off + xs.length * sz)) = o by omega] at this
                rw [this, c5]) (by
                intro x u hx
                obtain ⟨c1, c2, c3, c4⟩ := hG x u hx
                exact e3 u (List.mem_of_getElem? c4)) (by
                intro x u hx k cs e0
                obtain ⟨c1, _⟩ := hG x u hx
                rw [c1]
                obtain ⟨b, cb, d1, d2⟩ := s2.inv.own τ _ _ hτ2
                simp at d1
                obtain ⟨rfl, rfl⟩ := d1
                exact d2.var k cs e0) (by
                intro i k tz b cb e0 e1' j j1 j2
                by_cases hiτ : i = τ
                · subst hiτ
                  rw [hτ2] at e0
                  cases e0
                  simp at e1'
                  obtain ⟨rfl, rfl⟩ := e1'
                  simp only [G]
                  split
                  · rename_i hc
                    rw [List.getElem?_eq_none]
                    rw [hfl, hcl]
                    rw [Nat.add_mul] at j1
                    omega
                  · rfl
                · have hne : b.block ≠ a.block := s2.inv.apart i τ k (xs.length + ys.length) tz sz b a cb cap' e0 hτ2 e1' (by simp) hiτ
                  simp only [G]
                  rw [if_neg (fun hc => hne hc.1)]) (by
                intro x u hx
                obtain ⟨c1, _⟩ := hG x u hx
                exact .inr (.inr ⟨τ, xs.length + ys.length, sz, a, cap', hτ2, by simp, c1.symm⟩))
            have st := (s1.trans s2).trans s3
            refine ⟨_, _, _, hrun, st, ?_⟩
            simp only [VRel]
            refine .inr ⟨a, cap', cvs ++ cys, sz, by rw [List.length_append], g2, by rw [List.length_append]; exact hroom, (VRelL.mono st.le _ _ g4).append (VRelL.mono st.le _ _ e1), ?_, ?_, by simp, ?_⟩
            · intro cv hcv
              rcases List.mem_append.1 hcv with hcv | hcv
              · rcases headOk_spec g4 g5 hok' with h0 | rfl
                · subst h0
                  simp only [VRelL] at g4
                  subst g4
                  cases hcv
                · exact g5 cv hcv
              · exact e2 cv hcv
            · obtain ⟨_, o2⟩ := firstCells_list (P := P) (cap' := cap') hi g2 g3 g4 g5 g6 hok' (w' := w) rfl
              intro j u hu'
              rw [List.flatMap_append] at hu'
              by_cases hj : j < (cvs.flatMap VCells).length
              · rw [List.getElem?_append_left hj] at hu'
                exact st.le.F _ _ (g6 j u hu')
              · rw [List.getElem?_append_right (by omega), o2] at hu'
                have hjj : (cys.flatMap VCells).length > j - xs.length * sz := (List.getElem?_eq_some_iff.1 hu').1
                obtain ⟨_, _, hF0⟩ := r2.cell j (by omega) (by rw [hfl, hcl] at hjj; omega)
                simp only [hF0]
                simp only [G]
                rw [if_pos (by refine ⟨trivial, trivial, ?_⟩; omega)]
                rw [show a.off + j - (a.off + xs.length * sz) = j - xs.length * sz by omega]
                exact hu'
            · intro τ' hτ'
              simp only [Option.some.injEq] at hτ'
              subst hτ'
              simp [List.length_append]
          · obtain ⟨arr, hrun, a1, a2, a3, a4⟩ := grow a cap' s cvs g2 g3 g4 g5 g6 (by omega)
            have hge := grownCap_ge w (xs.length + ys.length) cap' e
            have s0 := Step.same (B := w.heap.size) hi (w' := w.drew) rfl rfl rfl rfl
            obtain ⟨m', s1, hc, hr⟩ := Step.moveList s0.inv arr e (0, 0) (xs.length + ys.length) sz _ hge a1 (fun j _ => by simp) (by rw [← List.length_append, a2]; exact a3) τ xs.length hτ (by omega)
            exact ⟨_, _, m', hrun, s0.trans s1, rel_moved ((VRelL.mono (s0.trans s1).le _ _ g4).append (VRelL.mono (s0.trans s1).le _ _ e1)) a4 (by rw [List.length_append]; exact hc) a2 (by rw [List.length_append]; exact hge) (by rw [List.length_append]; exact hr)⟩
  · cases he

end Go.Proofs.Ytnifldbmflkmpaa.Ev
