/-
  make; a whole operation.
-/
import Derived.Test.YtnifldbmflkmpaaEvK
namespace Go.Proofs.Ytnifldbmflkmpaa.Ev
open Go
set_option linter.unusedVariables false
set_option linter.unusedSimpArgs false

theorem makeSliceA_ok {P : Program} {m : M} {h h' : Heap} {w : World} (hi : Inv m h w) {t : TypeId} {x y z : AV} (he : makeSliceA P t h x y = some (z, h')) {u v : Value} (hx : VRel m x u) (hy : VRel m y v) :
    ∃ r w' m', (Instr.makeSlice t u v).run P w = .ok r w' ∧ Step w.heap.size m h w m' h' w' ∧ VRel m' z r ∧ ∃ o, h' = h ++ [o] := by
  unfold makeSliceA at he
  split at he
  · rename_i e l c hu
    rw [hx.int', hy.int']
    split at he
    · rename_i n by_ z0 hn hby hz0
      obtain ⟨i, zv, q1, q2, q3⟩ := tyZero_spec hz0
      obtain ⟨i', q1', hsz⟩ := tySize_spec hn
      rw [q1] at q1'
      cases q1'
      have hbytes : i.bytes = by_ := by unfold tyBytes at hby; simp [q1] at hby; exact hby
      split at he
      · rename_i hc
        obtain ⟨c1, c2, c3, c4, c5, c6⟩ := hc
        have hrun := run_make (P := P) w t e i zv hu q1 q2 .i64 .i64 l c c1 c2 (by rw [hbytes, Int.mul_comm]; omega) (by omega)
        have hzs : zv.cells.size = n := by have := VCells_length (q3 m); simp only [VCells, Array.length_toList] at this; omega
        split at he
        · rename_i h0
          subst h0
          simp only [Option.some.injEq, Prod.mk.injEq] at he
          obtain ⟨rfl, rfl⟩ := he
          obtain ⟨m', s, hcell, hr⟩ := Step.newList hi (madeCells zv.cells (c.toNat * i.size)) e (0, 0) 0 n c.toNat (Nat.zero_le _) (by rw [size_madeCells, hsz]) (fun j _ => by simp) (by simp)
          refine ⟨_, _, m', hrun, s, ?_, _, rfl⟩
          simp only [VRel]
          exact .inr ⟨⟨w.heap.size, 0, none⟩, c.toNat, [], n, by simp, fun _ => rfl, by simp, .nil, by simp, by intro j q hq; simp at hq, by simp, by intro τ hτ; simp only [Option.some.injEq] at hτ; subst hτ; exact hr⟩
        · split at he
          · rename_i z1 hz1
            simp only [Option.some.injEq, Prod.mk.injEq] at he
            obtain ⟨rfl, rfl⟩ := he
            have hzc := (q3 m).cells
            rw [hz1] at hzc
            simp only [VRelL] at hzc
            obtain ⟨zc, zr, hzv, hzr, hnil⟩ := hzc
            subst hnil
            have hn1 : n = 1 := by rw [hz1] at c5; simpa using c5.symm
            subst hn1
            have hones := (q3 m).cells.ones c6
            have hmade : (madeCells zv.cells (c.toNat * i.size)).toList = List.replicate c.toNat zc := by
              rw [hsz, Nat.mul_one]
              apply List.ext_getElem?
              intro j
              have hz0 : zv.cells[0]! = zc := by
                have hza : zv.cells = #[zc] := Array.ext' hzv
                rw [hza]
                rfl
              simp only [madeCells, Array.toList_map, Array.toList_range, List.getElem?_map, hzs, Nat.mod_one, hz0]
              by_cases hj : j < c.toNat
              · rw [List.getElem?_range hj, List.getElem?_replicate, if_pos hj]; rfl
              · rw [List.getElem?_eq_none (by simpa using hj), List.getElem?_replicate, if_neg hj]; rfl
            obtain ⟨m', s, hmu⟩ := Step.newVar hi (madeCells zv.cells (c.toNat * i.size)) e (List.replicate c.toNat z1) (by rw [hmade]; exact VRelL.replicate hzr _) (by
              rw [hmade]
              intro q hq
              rw [List.eq_of_mem_replicate hq]
              exact hones zc (by rw [hzv]; simp))
            refine ⟨_, _, m', hrun, s, ?_, _, rfl⟩
            simp only [VRel]
            exact ⟨_, hmu, rfl⟩
          · cases he
      · cases he
    · cases he
  · cases he

/-- What a call must give: a value and a later state. -/
def CallSpec (P : Program) (call : CallFn) : Prop :=
  ∀ g vs h v h' d, call g vs h = some (v, h', d) → ∀ m w (us : Array Value), Inv m h w → VRelL m vs us.toList →
    Calls P g us w (fun e w' => ∃ u, e = .returned u ∧ ∃ m', Step w.heap.size m h w m' h' w' ∧ VRel m' v u) ∧ h.length ≤ h'.length ∧ (d = false → ∀ i, i < h.length → h'[i]? = h[i]?)

/-- What an operation comes to. -/
def Res (P : Program) (r : Result Next) (K : Value → World → Prop) : Prop :=
  match r with
  | .ok (.value v) w' => K v w'
  | .ok .skip w' => K undef w'
  | .ok (.enter f args) w' => Calls P f args w' fun e w'' => ∃ v, e = .returned v ∧ K v w''
  | _ => False

theorem Res.mono {P : Program} {r : Result Next} {K K' : Value → World → Prop} (h : Res P r K) (hk : ∀ v w, K v w → K' v w) : Res P r K' := by
  unfold Res at h ⊢
  split
  · exact hk _ _ h
  · exact hk _ _ h
  · exact h.mono fun e w'' ⟨v, he, hv⟩ => ⟨v, he, hk _ _ hv⟩
  · rename_i h1 h2 h3
    split at h
    · exact (h1 _ _ rfl).elim
    · exact (h2 _ rfl).elim
    · exact (h3 _ _ _ rfl).elim
    · exact h

theorem Res.wp {P : Program} {o : Oper} {a : Act} {w : World} {K : Value → World → Prop} {next : Act → World → Prop} {Q : Exit → Act → World → Prop} (h : Res P ((execOp a.eval o).run P w) K)
    (hk : ∀ v w', K v w' → next (a.put o.dst v) w') : o.wp P a w next Q := by
  unfold Oper.wp
  unfold Res at h
  split at h
  · rename_i heq; rw [heq]; exact hk _ _ h
  · rename_i heq; rw [heq]; exact hk _ _ h
  · rename_i heq
    rw [heq]
    simp only [Oper.upon]
    refine h.mono ?_
    rintro e w'' ⟨v, rfl, hv⟩
    exact hk _ _ hv
  · exact h.elim

/-- Contracts of functions that are taken by what they say. -/
def PrimSpec (C : Cfg) : Prop :=
  ∀ g p, C.prim g = some p → ∀ vs v, cleanL 0 vs = true → p vs = some v → v.clean 0 = true → ∀ (m : M) (w : World) (us : Array Value), Inv m [] w → VRelL m vs us.toList →
    Res C.P ((callFunc g us).run C.P w) (fun u w' => ∃ m', Step w.heap.size m [] w m' [] w' ∧ VRel m' v u)

structure CfgOk (C : Cfg) : Prop where
  prim : PrimSpec C
  body : ∀ f, C.mode f ≠ .no → ∃ fn c, C.P.funcs[f]? = some fn ∧ fn.body = some c ∧ fn.name ≠ "runtime.NumGoroutine"

theorem callFunc_enter {C : Cfg} (hC : CfgOk C) {g : FuncId} (hg : C.mode g ≠ .no) (us : Array Value) (w : World) : (callFunc g us).run C.P w = .ok (.enter g us) w := by
  obtain ⟨fn, c, h1, h2, h3⟩ := hC.body g hg
  simp [callFunc, h1, h2, h3]

/-- What is known without the small heap. -/
def M.bare (m : M) : M := ⟨m.F, fun _ => none, fun _ _ => none⟩

theorem bare_upto (m : M) : m.upto 0 = m.bare := by simp [M.upto, M.bare]

theorem Inv.bare {m : M} {h : Heap} {w : World} (hi : Inv m h w) : Inv m.bare [] w :=
  ⟨hi.f, hi.fone, fun i cs e => by simp at e, fun i j cs ds c e => by simp at e, fun i n sz e => by simp at e, fun i j n k sz tz a b ca cb e => by simp at e, fun i c e => by simp [M.bare] at e, fun i n r e => by simp [M.bare] at e,
    fun i n k sz r e => by simp at e⟩

theorem touch_bare {m : M} {c : Nat} : ¬ Touch m [] c := by
  rintro (⟨i, cs, e, _⟩ | ⟨i, n, sz, a, cap, e, _⟩) <;> simp at e

/-- A call that sees nothing of the small heap leaves it as it was. -/
theorem Step.pure {m : M} {h : Heap} {w : World} (hi : Inv m h w) {m1 : M} {h1 : Heap} {w1 : World} (s : Step w.heap.size m.bare [] w m1 h1 w1) :
    Step w.heap.size m h w ⟨m1.F, m.mu, m.rho⟩ h w1 := by
  have hF : ∀ a v, m1.F a = some v → m.F a = some v ∨ w.heap.size ≤ a.block := by
    intro a v e
    rcases s.fnew a v e with e | e | e
    · exact .inl e
    · exact (touch_bare e).elim
    · exact .inr e
  have hle : m.le ⟨m1.F, m.mu, m.rho⟩ := ⟨fun a v e => s.le.F a v e, fun _ _ e => e, fun _ _ _ e => e⟩
  have hold : ∀ c, c < w.heap.size → w1.heap[c]? = w.heap[c]? := fun c hc => s.frame c hc touch_bare
  refine ⟨hle, ⟨s.inv.f, s.inv.fone, ?_, hi.inj, ?_, hi.apart, hi.mu, hi.rho, hi.cur⟩, s.size, s.os, s.tape, s.output, fun c hc _ => hold c hc, fun _ e => .inl e, fun a v e => (hF a v e).imp id .inr⟩
  · intro i cs e
    obtain ⟨c, cvs, t, h1, h2, h3, h4, h5⟩ := hi.var i cs e
    have hc := (Array.getElem?_eq_some_iff.1 h2).1
    refine ⟨c, cvs, t, h1, by rw [hold c hc]; exact h2, VRelL.mono hle _ _ h3, fun a ha => ?_, h5⟩
    cases hf : m1.F a with
    | none => rfl
    | some v =>
      rcases hF a v hf with e | e
      · rw [h4 a ha] at e; cases e
      · omega
  · intro i n sz e
    obtain ⟨a, cap, h1, h2⟩ := hi.own i n sz e
    refine ⟨a, cap, h1, h2.spot, h2.le, fun j j1 j2 => ?_, Nat.lt_of_lt_of_le h2.lt s.size, h2.var⟩
    obtain ⟨⟨v, f1⟩, f2, f3⟩ := h2.cell j j1 j2
    have hb := hold a.block h2.lt
    refine ⟨⟨v, by rw [World.cell?_of_block (a := ⟨a.block, a.off + j, none⟩) hb]; exact f1⟩, by rw [World.frozen?_of_block (a := ⟨a.block, a.off + j, none⟩) hb]; exact f2, ?_⟩
    cases hf : m1.F ⟨a.block, a.off + j, none⟩ with
    | none => rfl
    | some v =>
      rcases hF _ v hf with e | e
      · rw [f3] at e; cases e
      · have := h2.lt; simp at e; omega

/-- A value without traces of the small heap. -/
theorem VRel.bare {m : M} {x : AV} {v : Value} (hc : x.strip.clean 0 = true) (h : VRel m x v) : VRel m.bare x.strip v := by
  rw [← bare_upto]
  exact VRel.upto _ _ hc (VRel.strip _ _ h)
theorem VRelL.bare {m : M} {x : List AV} {v : List Value} (hc : cleanL 0 (stripL x) = true) (h : VRelL m x v) : VRelL m.bare (stripL x) v := by
  rw [← bare_upto]
  exact VRelL.upto _ _ hc (VRelL.strip _ _ h)
theorem M.bare_le (F : Addr → Option Value) (m : M) : (⟨F, fun _ => none, fun _ _ => none⟩ : M).le ⟨F, m.mu, m.rho⟩ := ⟨fun _ _ e => e, fun _ _ e => (by cases e), fun _ _ _ e => (by cases e)⟩

theorem callF_ok {C : Cfg} (hC : CfgOk C) {call : CallFn} (hcall : CallSpec C.P call) {g : FuncId} {vs : List AV} {h h' : Heap} {d d' : Bool} {v : AV} (he : callF C call g vs h d = some (v, h', d'))
    {m : M} {w : World} (hi : Inv m h w) {us : Array Value} (hr : VRelL m vs us.toList) :
    Res C.P ((callFunc g us).run C.P w) (fun u w' => ∃ m', Step w.heap.size m h w m' h' w' ∧ VRel m' v u) ∧ h.length ≤ h'.length ∧ (d' = false → d = false ∧ ∀ i, i < h.length → h'[i]? = h[i]?) := by
  unfold callF at he
  split at he
  · rename_i p hp
    split at he
    · rename_i hcl
      cases hq : p (stripL vs) with
      | none => simp [hq] at he
      | some q =>
        simp only [hq, Option.bind_some] at he
        split at he
        · rename_i hqc
          simp only [Option.some.injEq, Prod.mk.injEq] at he
          obtain ⟨rfl, rfl, rfl⟩ := he
          refine ⟨?_, Nat.le_refl _, fun e => ⟨e, fun _ _ => rfl⟩⟩
          have := hC.prim g p hp _ q hcl hq hqc m.bare w us hi.bare (VRelL.bare hcl hr)
          refine this.mono ?_
          rintro u w' ⟨m1, s, hv⟩
          refine ⟨_, Step.pure hi s, ?_⟩
          have h1 : VRel (m1.upto 0) q u := VRel.upto _ _ hqc hv
          rw [bare_upto] at h1
          exact VRel.mono (M.bare_le m1.F m) _ _ h1
        · cases he
    · cases he
  · split at he
    · rename_i hmode
      split at he
      · rename_i hcl
        split at he
        · rename_i q h1 d1 hq
          split at he
          · rename_i hqc
            simp only [Option.some.injEq, Prod.mk.injEq] at he
            obtain ⟨rfl, rfl, rfl⟩ := he
            refine ⟨?_, Nat.le_refl _, fun e => ⟨e, fun _ _ => rfl⟩⟩
            rw [callFunc_enter hC (by rw [hmode]; simp)]
            simp only [Res]
            obtain ⟨k1, _, _⟩ := hcall g _ _ _ _ _ hq m.bare w us hi.bare (VRelL.bare hcl hr)
            refine k1.mono ?_
            rintro e w'' ⟨u, rfl, m1, s, hv⟩
            refine ⟨u, rfl, _, Step.pure hi s, ?_⟩
            exact VRel.mono (M.bare_le m1.F m) _ _ (VRel.bare hqc hv)
          · cases he
        · cases he
      · cases he
    · rename_i hmode
      split at he
      · rename_i q h1 d1 hq
        simp only [Option.some.injEq, Prod.mk.injEq] at he
        obtain ⟨rfl, rfl, rfl⟩ := he
        obtain ⟨k1, k2, k3⟩ := hcall g _ _ _ _ _ hq m w us hi hr
        refine ⟨?_, k2, fun e => ?_⟩
        · rw [callFunc_enter hC (by rw [hmode]; simp)]
          simp only [Res]
          exact k1
        · simp only [Bool.or_eq_false_iff] at e
          exact ⟨e.1, k3 e.2⟩
      · cases he
    · cases he

end Go.Proofs.Ytnifldbmflkmpaa.Ev
