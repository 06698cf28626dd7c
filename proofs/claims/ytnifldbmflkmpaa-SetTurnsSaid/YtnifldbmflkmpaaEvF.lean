/-
  What each operation does: addresses, fields, indexes, slice expressions, lengths, literals.
-/
import Derived.Test.YtnifldbmflkmpaaEvE
import Derived.Lib.Strings
namespace Go.Proofs.Ytnifldbmflkmpaa.Ev
open Go
set_option linter.unusedVariables false
set_option linter.unusedSimpArgs false

theorem unA_ok {P : Program} {m : M} {w : World} {op : UnOp} {x z : AV} (he : unA op x = some z) {u : Value} (hx : VRel m x u) : ∃ r, (Op.unary op u).run P w = .ok r w ∧ VRel m z r := by
  unfold unA at he
  split at he
  · rename_i k n
    rw [hx.int']
    cases op <;> simp only at he <;> first | (cases he; done) | skip
    simp only [Option.some.injEq] at he
    subst he
    exact ⟨.int k (k.wrap (0 - n)), by simp only [Op.unary, Op.intArith, Sem.run_pure], by simp only [VRel]⟩
  · rw [hx.bool']
    cases op <;> simp only at he <;> first | (cases he; done) | skip
    simp only [Option.some.injEq] at he
    subst he
    exact ⟨_, by simp [Op.unary]; rfl, by simp only [VRel]⟩
  · cases he

theorem Addr.add_zero' (a : Addr) : a.add 0 = a := by simp [Addr.add]

theorem indexAddrA_ok {P : Program} {m : M} {w : World} {t : TypeId} {x i z : AV} (he : indexAddrA P t x i = some z) {u v : Value} (hx : VRel m x u) (hi : VRel m i v) :
    ∃ r, (Instr.indexAt t u v).run P w = .ok r w ∧ VRel m z r := by
  unfold indexAddrA at he
  split at he
  · rename_i k n e xs nn cap tok hu
    rw [hi.int']
    split at he
    · rename_i hb
      split at he
      · rename_i y s hy hs
        split at he
        · rename_i hl
          simp only [Option.some.injEq] at he
          subst he
          simp only [VRel] at hx
          rcases hx with ⟨rfl, _⟩ | ⟨a, cap', cvs, s', rfl, h2, h3, h4, h5, h6, h7, h8⟩
          · simp at hy
          · obtain ⟨cv, hcv, hr⟩ := h4.get hy
            have hsz : s' = s := by
              have := h5 cv (List.mem_of_getElem? hcv)
              rw [VCells_length hr] at this
              omega
            subst hsz
            refine ⟨.pointer (some ⟨a.block, a.off + n.toNat * s', none⟩), ?_, ?_⟩
            · have hb' : 0 ≤ n ∧ n < ((xs.length : Nat) : Int) := hb
              simp [Instr.indexAt, run_underlying hu, asIntOf, run_sizeOf' hs, hb', Addr.add_none a (h2 (by omega))]
            · simp only [VRel]
              exact ⟨_, cv, rfl, rfl, hr, h6.elem h5 hcv⟩
        · cases he
      · cases he
    · cases he
  · rename_i k n e b o len cap hu
    rw [hi.int']
    simp only [VRel] at hx
    obtain ⟨c, hm, rfl⟩ := hx
    split at he
    · rename_i hb
      cases hs : tySize P e with
      | none => simp [hs] at he
      | some s =>
        simp only [hs, Option.map_some, Option.some.injEq] at he
        subst he
        refine ⟨.pointer (some ⟨c, o + n.toNat * s, none⟩), ?_, by simp only [VRel]; exact ⟨c, hm, rfl⟩⟩
        simp [Instr.indexAt, run_underlying hu, asIntOf, run_sizeOf' hs, hb, Addr.add_mid]
    · cases he
  · rename_i k n len e b o hu
    rw [hi.int']
    simp only [VRel] at hx
    obtain ⟨c, hm, rfl⟩ := hx
    split at he
    · rename_i hb
      cases hs : tySize P e with
      | none => simp [hs] at he
      | some s =>
        simp only [hs, Option.map_some, Option.some.injEq] at he
        subst he
        refine ⟨.pointer (some ⟨c, o + n.toNat * s, none⟩), ?_, by simp only [VRel]; exact ⟨c, hm, rfl⟩⟩
        simp [Instr.indexAt, Instr.sureAddr, run_underlying hu, asIntOf, run_sizeOf' hs, hb, Addr.add_mid]
    · cases he
  · rename_i k n len e cs hu
    rw [hi.int']
    simp only [VRel] at hx
    obtain ⟨a, cv, rfl, ha, hr, hc⟩ := hx
    obtain ⟨cvs, rfl, hr⟩ := hr
    split at he
    · rename_i hb
      split at he
      · rename_i s hs
        cases hp : partA P e cs (n.toNat * s) with
        | none => simp [hp] at he
        | some y =>
          simp only [hp, Option.map_some, Option.some.injEq] at he
          subst he
          obtain ⟨cv, k', h1, h2⟩ := partA_mem hp hr
          refine ⟨.pointer (some ⟨a.block, a.off + n.toNat * s, none⟩), ?_, ?_⟩
          · simp [Instr.indexAt, Instr.sureAddr, run_underlying hu, asIntOf, run_sizeOf' hs, hb, Addr.add_none a ha]
          · simp only [VRel]
            refine ⟨_, cv, rfl, rfl, h1, ?_⟩
            rw [h2]
            exact (hc.drop _).take _
      · cases he
    · cases he
  · cases he

theorem fieldAddrA_ok {P : Program} {m : M} {w : World} {s : TypeId} {x z : AV} {f : Nat} (he : fieldAddrA P s x f = some z) {u : Value} (hx : VRel m x u) :
    ∃ r, (Instr.fieldAt s u f).run P w = .ok r w ∧ VRel m z r := by
  unfold fieldAddrA at he
  split at he
  · rename_i fields hu
    split at he
    · rename_i fd hf
      split at he
      · rename_i n hs
        have hs0 := run_sizeOf' (P := P) hs w
        split at he
        · rename_i b o
          simp only [Option.some.injEq] at he
          subst he
          simp only [VRel] at hx
          obtain ⟨c, hm, rfl⟩ := hx
          refine ⟨.pointer (some ⟨c, o + fd.offset, none⟩), ?_, by simp only [VRel]; exact ⟨c, hm, rfl⟩⟩
          simp [Instr.fieldAt, Instr.sureAddr, run_underlying hu, hf, fieldPlace, hs0, Addr.add_mid]
        · rename_i cs
          simp only [VRel] at hx
          obtain ⟨a, cv, rfl, ha, hr, hc⟩ := hx
          obtain ⟨cvs, rfl, hr⟩ := hr
          cases hp : partA P fd.type cs fd.offset with
          | none => simp [hp] at he
          | some y =>
            simp only [hp, Option.map_some, Option.some.injEq] at he
            subst he
            obtain ⟨cv, k', h1, h2⟩ := partA_mem hp hr
            refine ⟨.pointer (some ⟨a.block, a.off + fd.offset, none⟩), ?_, ?_⟩
            · simp [Instr.fieldAt, Instr.sureAddr, run_underlying hu, hf, fieldPlace, hs0, Addr.add_none a ha]
            · simp only [VRel]
              refine ⟨_, cv, rfl, rfl, h1, ?_⟩
              rw [h2]
              exact (hc.drop _).take _
        · cases he
      · cases he
    · cases he
  · cases he

theorem fieldA_ok {P : Program} {m : M} {w : World} {s : TypeId} {x z : AV} {f : Nat} (he : fieldA P s x f = some z) {u : Value} (hx : VRel m x u) :
    ∃ r, (Instr.field s u f).run P w = .ok r w ∧ VRel m z r := by
  unfold fieldA at he
  split at he
  · rename_i fields cs hu
    split at he
    · rename_i fd hf
      simp only [VRel] at hx
      obtain ⟨cvs, rfl, hr⟩ := hx
      obtain ⟨cv, h1, h2⟩ := partA_ok he hr w
      exact ⟨cv, by simp [Instr.field, run_underlying hu, hf, asAgg, h1], h2⟩
    · cases he
  · cases he

theorem indexA_ok {P : Program} {m : M} {w : World} {t : TypeId} {x i z : AV} (he : indexA P t x i = some z) {u v : Value} (hx : VRel m x u) (hi : VRel m i v) :
    ∃ r, (Instr.index t u v).run P w = .ok r w ∧ VRel m z r := by
  unfold indexA at he
  split at he
  · rename_i s k n hu
    rw [hi.int']
    simp only [VRel] at hx
    obtain ⟨b, rfl, rfl⟩ := hx
    split at he
    · rename_i hn
      cases hb : b.data.toList[n.toNat]? with
      | none => simp [hb] at he
      | some c =>
        simp only [hb, Option.map_some, Option.some.injEq] at he
        subst he
        have hb' : b[n.toNat]? = some c := by
          rw [List.getElem?_eq_some_iff] at hb
          obtain ⟨hl, hb⟩ := hb
          have hl' : n.toNat < b.size := hl
          rw [getElem?_pos b n.toNat hl', ← hb]
          rfl
        exact ⟨.int .u8 (c.toNat : Int), by simp [Instr.index, run_underlying hu, asIntOf, hn, hb'], by simp only [VRel]⟩
    · cases he
  · rename_i len e cs k n hu
    rw [hi.int']
    simp only [VRel] at hx
    obtain ⟨cvs, rfl, hr⟩ := hx
    split at he
    · rename_i hb
      split at he
      · rename_i s hs
        obtain ⟨cv, h1, h2⟩ := partA_ok he hr w
        exact ⟨cv, by simp [Instr.index, run_underlying hu, asIntOf, hb, run_sizeOf' hs, h1], h2⟩
      · cases he
    · cases he
  · cases he

theorem intOf?_spec {m : M} {x : AV} {n : Int} (h : intOf? x = some n) {v : Value} (hx : VRel m x v) : ∃ k, v = .int k n := by
  unfold intOf? at h
  split at h
  · simp only [Option.some.injEq] at h; subst h; exact ⟨_, hx.int'⟩
  · cases h

theorem bound_run {P : Program} {w : World} {k : IntKind} {n : Int} {y : Nat} (h0 : 0 ≤ n) (h1 : n ≤ y) (code : BoundsCode) : (Instr.sliceBound (.int k n) y code).run P w = .ok n.toNat w := by
  simp [Instr.sliceBound, asIntOf, h0, h1]

theorem bounds_run {P : Program} {m : M} {w : World} {len capA capC l h mm : Nat} {lo hi mx : Option AV} (he : boundsA len capA lo hi mx = some (l, h, mm)) (hcap : capA ≤ capC) (isS : Bool)
    {lo' hi' mx' : Option Value} (hl : ORel m lo lo') (hh : ORel m hi hi') (hm : ORel m mx mx') :
    (Instr.sliceBounds isS len capC lo' hi' mx').run P w = .ok (l, h, if mx.isSome then mm else capC) w ∧ l ≤ h ∧ h ≤ mm ∧ mm ≤ capA ∧ (mx = none → mm = capA) := by
  unfold boundsA at he
  simp only at he
  split at he
  · rename_i mn hn ln e1 e2 e3
    split at he
    · rename_i hc
      obtain ⟨c1, c2, c3, c4, c5, c6, c7⟩ := hc
      simp only [Option.some.injEq, Prod.mk.injEq] at he
      obtain ⟨rfl, rfl, rfl⟩ := he
      refine ⟨?_, by omega, by omega, by omega, fun h0 => by subst h0; simp at e1; omega⟩
      cases mx with
      | none =>
        simp only [Option.some.injEq] at e1
        subst e1
        have hm' : mx' = none := by cases mx' <;> simp [ORel] at hm ⊢
        subst hm'
        cases hi with
        | none =>
          simp only [Option.some.injEq] at e2
          subst e2
          have hh' : hi' = none := by cases hi' <;> simp [ORel] at hh ⊢
          subst hh'
          cases lo with
          | none =>
            simp only [Option.some.injEq] at e3
            subst e3
            have hl' : lo' = none := by cases lo' <;> simp [ORel] at hl ⊢
            subst hl'
            simp [Instr.sliceBounds]
          | some x =>
            cases lo' with
            | none => simp [ORel] at hl
            | some v =>
              simp only [ORel] at hl
              obtain ⟨k, rfl⟩ := intOf?_spec e3 hl
              have := bound_run (P := P) (w := w) (k := k) (n := ln) (y := len) c6 (by omega) .sliceB
              simp [Instr.sliceBounds, this]
        | some x =>
          cases hi' with
          | none => simp [ORel] at hh
          | some v =>
            simp only [ORel] at hh
            obtain ⟨k, rfl⟩ := intOf?_spec e2 hh
            have hb := fun code => bound_run (P := P) (w := w) (k := k) (n := hn) (y := capC) c4 (by omega) code
            cases lo with
            | none =>
              simp only [Option.some.injEq] at e3
              subst e3
              have hl' : lo' = none := by cases lo' <;> simp [ORel] at hl ⊢
              subst hl'
              simp [Instr.sliceBounds, hb]
            | some y =>
              cases lo' with
              | none => simp [ORel] at hl
              | some v =>
                simp only [ORel] at hl
                obtain ⟨j, rfl⟩ := intOf?_spec e3 hl
                have hb2 := fun code => bound_run (P := P) (w := w) (k := j) (n := ln) (y := hn.toNat) c6 (by omega) code
                simp [Instr.sliceBounds, hb, hb2]
      | some z =>
        cases mx' with
        | none => simp [ORel] at hm
        | some v =>
          simp only [ORel] at hm
          obtain ⟨k0, rfl⟩ := intOf?_spec e1 hm
          have hb0 := fun code => bound_run (P := P) (w := w) (k := k0) (n := mn) (y := capC) c2 (by omega) code
          cases hi with
          | none => simp at c1
          | some x =>
            cases hi' with
            | none => simp [ORel] at hh
            | some v =>
              simp only [ORel] at hh
              obtain ⟨k, rfl⟩ := intOf?_spec e2 hh
              have hb := fun code => bound_run (P := P) (w := w) (k := k) (n := hn) (y := mn.toNat) c4 (by omega) code
              cases lo with
              | none =>
                simp only [Option.some.injEq] at e3
                subst e3
                have hl' : lo' = none := by cases lo' <;> simp [ORel] at hl ⊢
                subst hl'
                simp [Instr.sliceBounds, hb0, hb]
              | some y =>
                cases lo' with
                | none => simp [ORel] at hl
                | some v =>
                  simp only [ORel] at hl
                  obtain ⟨j, rfl⟩ := intOf?_spec e3 hl
                  have hb2 := fun code => bound_run (P := P) (w := w) (k := j) (n := ln) (y := hn.toNat) c6 (by omega) code
                  simp [Instr.sliceBounds, hb0, hb, hb2]
    · cases he
  · cases he

theorem VRelL.forall_mem {m : M} : ∀ {xs : List AV} {vs : List Value}, VRelL m xs vs → ∀ v ∈ vs, ∃ x ∈ xs, VRel m x v
  | [], _, h, v, hv => by simp only [VRelL] at h; subst h; cases hv
  | x :: xs, _, h, v, hv => by
    simp only [VRelL] at h
    obtain ⟨u, us, rfl, h1, h2⟩ := h
    rcases List.mem_cons.1 hv with rfl | hv
    · exact ⟨x, by simp, h1⟩
    · obtain ⟨y, hy, hr⟩ := VRelL.forall_mem h2 v hv
      exact ⟨y, by simp [hy], hr⟩

theorem sliceA_ok {P : Program} {m : M} {w : World} {t : TypeId} {x z : AV} {lo hi mx : Option AV} (he : sliceA P t x lo hi mx = some z) {u : Value} (hx : VRel m x u)
    {lo' hi' mx' : Option Value} (hl : ORel m lo lo') (hh : ORel m hi hi') (hm : ORel m mx mx') :
    ∃ r, (Instr.sliceAt t u lo' hi' mx').run P w = .ok r w ∧ VRel m z r := by
  unfold sliceA at he
  split at he
  · rename_i s hu
    simp only [VRel] at hx
    obtain ⟨b, rfl, rfl⟩ := hx
    split at he
    · cases he
    · rename_i hmx
      have hmx0 : mx = none := by cases mx <;> simp at hmx ⊢
      subst hmx0
      have hm' : mx' = none := by cases mx' <;> simp [ORel] at hm ⊢
      subst hm'
      cases hb : boundsA b.data.toList.length b.data.toList.length lo hi none with
      | none => rw [hb] at he; simp only [Option.map_none] at he; cases he
      | some q =>
        obtain ⟨l, h, mm⟩ := q
        rw [hb] at he
        simp only [Option.map_some, Option.some.injEq] at he
        subst he
        obtain ⟨h1, h2, h3, h4, h5⟩ := bounds_run (P := P) (w := w) (capC := b.data.toList.length) hb (Nat.le_refl _) false hl hh hm
        have e1 : b.data.toList.length = b.size := rfl
        rw [e1] at h1
        refine ⟨.string (b.extract l h), ?_, ?_⟩
        · simp [Instr.sliceAt, Instr.slice, run_underlying hu, h1]
        · simp only [VRel]
          refine ⟨_, rfl, ?_⟩
          rw [Lib.extract_data, List.drop_take]
  · rename_i e xs nn cap tok hu
    split at he
    · rename_i n l h mm hs hb
      split at he
      · rename_i hok
        simp only [Option.some.injEq] at he
        subst he
        simp only [VRel] at hx
        rcases hx with ⟨rfl, rfl, hc0, _, rfl⟩ | ⟨a, cap', cvs, s, rfl, g2, g3, g4, g5, g6, g7, g8⟩
        · obtain ⟨h1, h2, h3, h4, h5⟩ := bounds_run (P := P) (w := w) (capC := 0) hb (by simp) true hl hh hm
          simp at h4
          subst h4
          have h0 : h = 0 := by omega
          subst h0
          have l0 : l = 0 := by omega
          subst l0
          refine ⟨.slice none 0 0, ?_, ?_⟩
          · simp at h1
            simp [Instr.sliceAt, Instr.slice, run_underlying hu, h1, run_sizeOf' hs]
          · simp only [VRel]
            refine .inl ⟨by simp, by simp, ?_, by simp, by simp⟩
            intro c hc
            split at hc
            · simp at hc; omega
            · cases cap with
              | none => simp at hc
              | some k => simp at hc; have := hc0 k rfl; omega
        · obtain ⟨h1, h2, h3, h4, h5⟩ := bounds_run (P := P) (w := w) (capC := cap') hb g3 true hl hh hm
          refine ⟨.slice (some (if (if mx.isSome then mm else cap') = l then a else ⟨a.block, a.off + l * n, none⟩)) (h - l) ((if mx.isSome then mm else cap') - l), ?_, ?_⟩
          · simp only [Instr.sliceAt, Instr.slice, Sem.run_bind, run_underlying hu, Result.andThen_ok, h1, run_sizeOf' hs]
            simp only [Sem.run_pure]
            by_cases hml : (if mx.isSome then mm else cap') = l
            · simp [hml]
            · have hc0 : cap' ≠ 0 := by (intro h0; apply hml; split <;> omega)
              simp [hml, Addr.add_none a (g2 hc0)]
          · simp only [VRel]
            have hlen : ((xs.take h).drop l).length = h - l := by simp; omega
            refine .inr ⟨_, _, (cvs.take h).drop l, s, by rw [hlen], ?_, ?_, (g4.take h).drop l, ?_, ?_, ?_, by simp⟩
            · by_cases hml : (if mx.isSome then mm else cap') = l
              · intro hne; rw [if_pos hml]; exact (hne (by omega)).elim
              · intro _; rw [if_neg hml]
            · rw [hlen]; split <;> omega
            · intro cv hcv
              exact g5 cv (List.mem_of_mem_take (List.mem_of_mem_drop hcv))
            · by_cases hlh : h - l = 0
              · have : (cvs.take h).drop l = [] := by apply List.eq_nil_of_length_eq_zero; simp; omega
                rw [this]
                intro i v hv
                simp at hv
              · have hne : ¬ (if mx.isSome then mm else cap') = l := by split <;> omega
                rw [if_neg hne]
                rcases headOk_spec g4 g5 hok with hx0 | hsn
                · subst hx0; simp at h4; omega
                · subst hsn
                  rw [flatMap_drop _ _ (fun v hv => g5 v (List.mem_of_mem_take hv)), flatMap_take _ _ g5]
                  exact (g6.take _).drop _
            · intro c hc
              by_cases hms : mx.isSome
              · simp only [hms, if_true, Option.some.injEq] at hc ⊢
                omega
              · simp only [hms, if_false, Bool.false_eq_true] at hc ⊢
                cases cap with
                | none => simp at hc
                | some k => simp at hc; have := g7 k rfl; omega
      · cases he
    · cases he
  · rename_i e hu
    split at he
    · rename_i n q hs hb
      simp only [Option.some.injEq] at he
      subst he
      obtain ⟨l, h, mm⟩ := q
      simp only [VRel] at hx
      subst hx
      obtain ⟨h1, h2, h3, h4, h5⟩ := bounds_run (P := P) (w := w) (capC := 0) hb (Nat.le_refl _) true hl hh hm
      have m0 : mm = 0 := by omega
      subst m0
      have h0 : h = 0 := by omega
      subst h0
      have l0 : l = 0 := by omega
      subst l0
      refine ⟨.slice none 0 0, ?_, by simp only [VRel]⟩
      simp at h1
      simp [Instr.sliceAt, Instr.slice, run_underlying hu, h1, run_sizeOf' hs]
    · cases he
  · rename_i e b o len cap hu
    split at he
    · rename_i n l h mm hs hb
      simp only [Option.some.injEq] at he
      subst he
      simp only [VRel] at hx
      obtain ⟨c, hmu, rfl⟩ := hx
      obtain ⟨h1, h2, h3, h4, h5⟩ := bounds_run (P := P) (w := w) (capC := cap) hb (Nat.le_refl _) true hl hh hm
      have e0 : (if mx.isSome then mm else cap) = mm := by
        split
        · rfl
        · rename_i h0; cases mx <;> simp at h0; exact (h5 rfl).symm
      rw [e0] at h1
      refine ⟨.slice (some ⟨c, if mm = l then o else o + l * n, none⟩) (h - l) (mm - l), ?_, by simp only [VRel]; exact ⟨c, hmu, rfl⟩⟩
      simp only [Instr.sliceAt, Instr.slice, Sem.run_bind, run_underlying hu, Result.andThen_ok, h1, run_sizeOf' hs]
      simp only [Sem.run_pure]
      by_cases hml : mm = l
      · simp [hml]
      · simp [hml, Addr.add_mid]
    · cases he
  · rename_i len e b o hu
    split at he
    · rename_i n l h mm hs hb
      simp only [Option.some.injEq] at he
      subst he
      simp only [VRel] at hx
      obtain ⟨c, hmu, rfl⟩ := hx
      obtain ⟨h1, h2, h3, h4, h5⟩ := bounds_run (P := P) (w := w) (capC := len) hb (Nat.le_refl _) false hl hh hm
      have e0 : (if mx.isSome then mm else len) = mm := by
        split
        · rfl
        · rename_i h0; cases mx <;> simp at h0; exact (h5 rfl).symm
      rw [e0] at h1
      refine ⟨.slice (some ⟨c, if mm = l then o else o + l * n, none⟩) (h - l) (mm - l), ?_, by simp only [VRel]; exact ⟨c, hmu, rfl⟩⟩
      simp only [Instr.sliceAt, Instr.sureAddr, Sem.run_bind, run_underlying hu, Result.andThen_ok, Sem.run_pure, h1, run_sizeOf' hs]
      by_cases hml : mm = l
      · simp [hml]
      · simp [hml, Addr.add_mid]
    · cases he
  · cases he

end Go.Proofs.Ytnifldbmflkmpaa.Ev
