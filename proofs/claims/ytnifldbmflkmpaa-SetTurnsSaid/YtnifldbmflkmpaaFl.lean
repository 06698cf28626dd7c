/-
  What the kernel looks through: the configuration is sound; arguments of the laws.
-/
import Derived.Test.YtnifldbmflkmpaaCf
import Derived.Test.YtnifldbmflkmpaaEvS
import Derived.Test.YtnifldbmflkmpaaRows
import Derived.Test.YtnifldbmflkmpaaQb
import Derived.Test.YtnifldbmflkmpaaQc
namespace Go.Proofs.Ytnifldbmflkmpaa
open Go Ev Go.RowKit Go.ChangeShapes Go.WideShapes
set_option linter.unusedVariables false
set_option linter.unusedSimpArgs false
set_option maxRecDepth 100000
/-- slices.Clone by itself. -/
noncomputable def cfgC : Cfg where
  P := Try.prog
  mode := fun f => if f = 58 ∨ f = 64 then .impure else .no
  prim := fun _ => none
@[simp] theorem cfgCP : cfgC.P = Try.prog := rfl
theorem cfgC_in : ∀ f, cfgC.mode f ≠ .no → f ∈ [58, 64] := by
  intro f hf
  by_cases h : f = 58 ∨ f = 64
  · rcases h with rfl | rfl <;> simp
  · simp [cfgC, h] at hf
theorem cfgC_fns : fnsOk cfgC [58, 64] = true := by kernel_rfl
theorem cfgC_bodies : BodiesOk cfgC := bodiesOk_of cfgC_fns cfgC_in
theorem cfgC_ok : CfgOk cfgC := cfgOk_of (primSpec_none fun _ => rfl) cfgC_fns cfgC_in
theorem mixed : Try.prog.follows .mixedOrders = true := Checked.mixed Try.checked
theorem clone_nil : ∃ k v0 h d, evalF cfgC k 58 [.nils] [] = some (v0, h, d) ∧ v0.strip = .L [] := by
  refine run_of_body (by decide) Try.func58 rfl ?_
  refine Ev.seq (Ev.region ?_)
  apply EvOps.run
  · intro call; simp [Try.f58]; exact rfl
  refine Ev.seq (Ev.seq (Ev.region ?_))
  apply EvOps.run
  · intro call; simp; exact rfl
  refine Ev.cond true (by simp) (fun _ => ?_) (fun h => by simp at h)
  refine Ev.seq (Ev.region ?_)
  apply EvOps.run
  · intro call; simp; exact rfl
  exact Ev.ret ⟨.nils, by simp [Try.f58], by simp⟩
theorem clone_list (xs : List AV) (hh : headOk 1 xs = true) (hb : xs.length ≤ 68719476736) : ∃ k v0 h d, evalF cfgC k 58 [.list xs true none none] [] = some (v0, h, d) ∧ v0.strip = .L (stripL xs) := by
  refine run_of_body (by decide) Try.func58 rfl ?_
  refine Ev.seq (Ev.region ?_)
  apply EvOps.run
  · intro call; simp [Try.f58]; exact rfl
  refine Ev.seq (Ev.seq (Ev.region ?_))
  apply EvOps.run
  · intro call; simp; exact rfl
  refine Ev.cond false (by simp) (fun h => by simp at h) (fun _ => Ev.skip ?_)
  refine Ev.seq (Ev.region (EvOps.take 2 ?_))
  apply EvOps.run
  · intro call; simp [buildSliceA]; exact rfl
  refine EvOps.append (x := .list [] true (some 0) none) (y := .list xs true none none) rfl rfl (by simp) (by simp) Try.underlying24 Try.underlying24 rfl Ty.s9 Ty.b9 Ty.z9 rfl (xs := []) (.inr (.inr ⟨true, rfl⟩)) (by simp) (ys := xs) (by simp [elemsA, hh]) (by simp only [List.length_nil]; omega) ?_
  intro out h1 hg _
  apply EvOps.run
  · intro call; simp; exact rfl
  exact Ev.ret ⟨out, by simp [Try.f58], by rw [hg.strip, List.nil_append]⟩
theorem cloneR_nil : ∃ k v0 h d, evalF cfgC k 64 [.nils] [] = some (v0, h, d) ∧ v0.strip = .L [] := by
  refine run_of_body (by decide) Try.func64 rfl ?_
  refine Ev.seq (Ev.region ?_)
  apply EvOps.run
  · intro call; simp [Try.f64]; exact rfl
  refine Ev.seq (Ev.seq (Ev.region ?_))
  apply EvOps.run
  · intro call; simp; exact rfl
  refine Ev.cond true (by simp) (fun _ => ?_) (fun h => by simp at h)
  refine Ev.seq (Ev.region ?_)
  apply EvOps.run
  · intro call; simp; exact rfl
  exact Ev.ret ⟨.nils, by simp [Try.f64], by simp⟩
theorem cloneR_list (xs : List AV) (hh : headOk 4 xs = true) (hb : xs.length ≤ 68719476736) : ∃ k v0 h d, evalF cfgC k 64 [.list xs true none none] [] = some (v0, h, d) ∧ v0.strip = .L (stripL xs) := by
  refine run_of_body (by decide) Try.func64 rfl ?_
  refine Ev.seq (Ev.region ?_)
  apply EvOps.run
  · intro call; simp [Try.f64]; exact rfl
  refine Ev.seq (Ev.seq (Ev.region ?_))
  apply EvOps.run
  · intro call; simp; exact rfl
  refine Ev.cond false (by simp) (fun h => by simp at h) (fun _ => Ev.skip ?_)
  refine Ev.seq (Ev.region (EvOps.take 2 ?_))
  apply EvOps.run
  · intro call; simp [buildSliceA]; exact rfl
  refine EvOps.append (x := .list [] true (some 0) none) (y := .list xs true none none) rfl rfl (by simp) (by simp) Try.underlying38 Try.underlying38 rfl Ty.s40 Ty.b40 Ty.z40 rfl (xs := []) (.inr (.inr ⟨true, rfl⟩)) (by simp) (ys := xs) (by simp [elemsA, hh]) (by simp only [List.length_nil]; omega) ?_
  intro out h1 hg _
  apply EvOps.run
  · intro call; simp; exact rfl
  exact Ev.ret ⟨out, by simp [Try.f64], by rw [hg.strip, List.nil_append]⟩
theorem fns : fnsOk cfg (pures ++ impures) = true := by kernel_rfl
theorem cfg_in : ∀ f, cfg.mode f ≠ .no → f ∈ pures ++ impures := by
  intro f hf
  by_cases h : pures.contains f = true
  · simp only [List.mem_append]; exact .inl (by simpa using h)
  · by_cases h' : impures.contains f = true
    · simp only [List.mem_append]; exact .inr (by simpa using h')
    · simp only [cfg, h, h'] at hf; simp at hf
/-- internal/bytealg.IndexByteString: its contract. -/
theorem idx_spec {vs : List AV} {v : AV} (hv : idxA vs = some v) {m : M} {w : World} {us : Array Value} (hi : Inv m [] w) (hr : VRelL m vs us.toList) :
    Res Try.prog ((callFunc 103 us).run Try.prog w) (fun u w' => ∃ m', Step w.heap.size m [] w m' [] w' ∧ VRel m' v u) := by
  unfold idxA at hv
  split at hv
  · rename_i s c
    simp only [Option.some.injEq] at hv
    subst hv
    simp only [VRelL, VRel] at hr
    obtain ⟨u1, r1, e1, ⟨b, rfl, hb⟩, u2, r2, rfl, rfl, rfl⟩ := hr
    have hus : us = #[.string b, .int .u8 c] := by rw [← Array.toList_inj]; exact e1
    subst hus
    rw [run_callFunc_extern Try.func103 (by kernel_rfl) (by kernel_rfl) (by kernel_rfl) (e := Extern.BytealgIndexByte.indexByte) (by kernel_rfl), Lib.run_indexByteString]
    simp only [Result.andThen, Res]
    exact ⟨m, Step.refl hi, by simp only [VRel, hb]⟩
  · cases hv
/-- glob.Quote: its contract. -/
theorem quote_spec {vs : List AV} {v : AV} (hv : quoteA vs = some v) {m : M} {w : World} {us : Array Value} (hi : Inv m [] w) (hr : VRelL m vs us.toList) :
    Res Try.prog ((callFunc 38 us).run Try.prog w) (fun u w' => ∃ m', Step w.heap.size m [] w m' [] w' ∧ VRel m' v u) := by
  unfold quoteA at hv
  split at hv
  · rename_i s
    split at hv
    · rename_i hs
      simp only [Option.some.injEq] at hv
      subst hv
      simp only [VRelL, VRel] at hr
      obtain ⟨u1, r1, e1, ⟨b, rfl, hb⟩, rfl⟩ := hr
      have hus : us = #[.string b] := by rw [← Array.toList_inj]; exact e1
      subst hus
      have hsz : b.size ≤ 1000 := by have : b.data.toList.length = b.size := by simp
                                     rw [hb] at this; omega
      refine res_enter (enters_of Try.func38 (by kernel_rfl) rfl) ((quote_walk b w hsz).mono ?_)
      rintro e w' ⟨rfl, hbw⟩
      exact ⟨_, rfl, m, Step.below hi hbw, by simp only [VRel]; exact ⟨_, rfl, by rw [hb]⟩⟩
    · cases hv
  · cases hv
theorem vrel_strs (m : M) : ∀ ss : List S, VRelL m (ss.map .str) (ss.map encStr)
  | [] => by simp only [List.map_nil, VRelL]
  | s :: ss => by
    simp only [List.map_cons, VRelL]
    exact ⟨_, _, rfl, by simp only [VRel]; exact ⟨_, rfl, rfl⟩, vrel_strs m ss⟩
theorem strs_vrel {m : M} : ∀ {ss : List S} {cvs : List Value}, VRelL m (ss.map .str) cvs → ∃ zs : List ByteArray, cvs = zs.map .string ∧ zs.map (·.data.toList) = ss
  | [], cvs, h => by simp only [List.map_nil, VRelL] at h; subst h; exact ⟨[], rfl, rfl⟩
  | s :: ss, cvs, h => by
    simp only [List.map_cons, VRelL] at h
    obtain ⟨v, vs, rfl, hv, h⟩ := h
    simp only [VRel] at hv
    obtain ⟨b, rfl, hb⟩ := hv
    obtain ⟨zs, rfl, h2⟩ := strs_vrel h
    exact ⟨b :: zs, rfl, by rw [List.map_cons, hb, h2]⟩
/-- set.of: its contract. -/
theorem of_spec {vs : List AV} {v : AV} (hv : ofA vs = some v) {m : M} {w : World} {us : Array Value} (hi : Inv m [] w) (hr : VRelL m vs us.toList) :
    Res Try.prog ((callFunc 77 us).run Try.prog w) (fun u w' => ∃ m', Step w.heap.size m [] w m' [] w' ∧ VRel m' v u) := by
  unfold ofA at hv
  split at hv
  · rename_i xs nn cap tok
    cases hss : strsOf? xs with
    | none => rw [hss] at hv; simp at hv
    | some ss =>
      rw [hss] at hv
      simp only [Option.bind_some] at hv
      split at hv
      · rename_i hlen
        simp only [Option.some.injEq] at hv
        subst hv
        have hxs := strsOf_eq hss
        subst hxs
        simp only [VRelL] at hr
        obtain ⟨u, r, e1, hu, rfl⟩ := hr
        have hus : us = #[u] := by rw [← Array.toList_inj]; exact e1
        subst hus
        refine res_enter (enters_of Try.func77 (by kernel_rfl) rfl) ?_
        have fin : ∀ e w', LeftS w ss e w' → ∃ v, e = .returned v ∧ ∃ m', Step w.heap.size m [] w m' [] w' ∧ VRel m' (strs (srt ss)) v := by
          rintro e w' ⟨v, rfl, ho, hb⟩
          obtain ⟨m', s, h⟩ := Step.row hi hb ho (by intro c hc; obtain ⟨x, _, rfl⟩ := List.mem_map.1 hc; rfl) (xs := (srt ss).map .str) (vrel_strs m _)
          exact ⟨v, rfl, m', s, h⟩
        simp only [VRel] at hu
        rcases hu with ⟨hx, _, _, _, rfl⟩ | ⟨a, cap', cvs, sz, rfl, hsp, hlc, hrl, hsz, hcf, _, _⟩
        · have hs0 : ss = [] := by simpa using hx
          subst hs0
          refine (of_nil w).mono ?_
          rintro e w' ⟨rfl, rfl⟩
          have h0 : srt [] = [] := by simp [srt, Lib.compact, Lib.compactUpTo]
          exact ⟨_, rfl, m, Step.refl hi, by rw [h0]; simp [strs, VRel]⟩
        · obtain ⟨zs, rfl, hzs⟩ := strs_vrel hrl
          have hzl : zs.length = ss.length := by rw [← hzs, List.length_map]
          by_cases hn : ss.length = 0
          · have hs0 : ss = [] := List.eq_nil_of_length_eq_zero hn
            subst hs0
            exact (of_zero a cap' w).mono fin
          · have hc0 : cap' ≠ 0 := by simp at hlc; omega
            obtain ⟨b, off, sp⟩ := a
            have hsp0 := hsp hc0
            simp only at hsp0
            subst hsp0
            have hfl : (zs.map Value.string).flatMap VCells = zs.map Value.string := by
              clear hcf hrl hzl hzs hsz
              induction zs with
              | nil => rfl
              | cons z l ih => rw [List.map_cons, List.flatMap_cons, ih]; rfl
            rw [hfl] at hcf
            have hcell : ∀ j, j < zs.length → w.cell? ⟨b, off + j, none⟩ = some (.string (zs.getD j ByteArray.empty)) := by
              intro j hj
              have := hcf j (.string zs[j]) (by simp [hj])
              have := hi.f _ _ this
              simp only [List.getD, List.getElem?_eq_getElem hj, Option.getD_some]
              exact this
            have hcall := of_any b off ss.length cap' zs w (by omega) (by omega) hcell
            rw [List.take_of_length_le (by omega), hzs] at hcall
            rw [List.length_map]
            exact hcall.mono fin
      · cases hv
  · cases hv
theorem cfg_prim : PrimSpec cfg := by
  intro g p hp vs v hcl hv hvc m w us hi hr
  by_cases hg : g = 58
  · subst hg
    have : p = cloneA 1 := by simp [cfg] at hp; exact hp.symm
    subst this
    unfold cloneA at hv
    split at hv
    · rename_i xs nn cap tok
      split at hv
      · rename_i hc
        simp only [Option.some.injEq] at hv
        subst hv
        simp only [cleanL_cons, cleanL_nil, Bool.and_true] at hcl
        have hx : cleanL 0 xs = true := by simp only [AV.clean, Bool.and_eq_true] at hcl; exact hcl.1
        exact res_of_two (C1 := cfgC) cfgC_ok cfgC_bodies mixed (by decide) hvc hx (fun e => by subst e; simpa using clone_nil) (clone_list xs hc.1 hc.2) hi hr
      · cases hv
    · cases hv
  · by_cases hg' : g = 64
    · subst hg'
      have : p = cloneA 4 := by simp [cfg] at hp; exact hp.symm
      subst this
      unfold cloneA at hv
      split at hv
      · rename_i xs nn cap tok
        split at hv
        · rename_i hc
          simp only [Option.some.injEq] at hv
          subst hv
          simp only [cleanL_cons, cleanL_nil, Bool.and_true] at hcl
          have hx : cleanL 0 xs = true := by simp only [AV.clean, Bool.and_eq_true] at hcl; exact hcl.1
          exact res_of_two (C1 := cfgC) cfgC_ok cfgC_bodies mixed (by decide) hvc hx (fun e => by subst e; simpa using cloneR_nil) (cloneR_list xs hc.1 hc.2) hi hr
        · cases hv
      · cases hv
    · by_cases hg2 : g = 103
      · subst hg2
        have : p = idxA := by simp [cfg] at hp; exact hp.symm
        subst this
        exact idx_spec hv hi hr
      · by_cases hg3 : g = 38
        · subst hg3
          have : p = quoteA := by simp [cfg] at hp; exact hp.symm
          subst this
          exact quote_spec hv hi hr
        · by_cases hg4 : g = 77
          · subst hg4
            have : p = ofA := by simp [cfg] at hp; exact hp.symm
            subst this
            exact of_spec hv hi hr
          · simp [cfg, hg, hg', hg2, hg3, hg4] at hp
theorem bodies : BodiesOk cfg := bodiesOk_of fns cfg_in
theorem cfg_ok : CfgOk cfg := cfgOk_of cfg_prim fns cfg_in
theorem own : ownKnob Try.prog.godebug = none := by kernel_rfl
theorem laid : laidOutB Try.prog = true := by kernel_rfl
/-- A law of this seat whose parameters are lists of texts. -/
def tys : List Nat := [3, 9, 24, 22, 40, 38, 5, 43]
theorem tys_ok : tysOk Try.prog tys = true := by kernel_rfl
theorem str_of {n : Nat} {y : AV} (h : isOf Try.prog (has Try.prog n) 9 y) : ∃ s : S, y = .str s ∧ s.length ≤ maxLen := by
  rcases h with ⟨h, _⟩ | ⟨_, h⟩
  · simp at h
  cases n with
  | zero => exact h.elim
  | succ n =>
    simp only [has, Try.underlying9] at h
    obtain ⟨s, e, hs⟩ := h
    simp only [List.cons.injEq, and_true] at e
    exact ⟨s, e, hs⟩
theorem int_of {n : Nat} {y : AV} (h : isOf Try.prog (has Try.prog n) 3 y) : ∃ i : Int, y = .int .i64 i ∧ (Lit.int .i64 i).wf = true := by
  rcases h with ⟨h, _⟩ | ⟨_, h⟩
  · simp at h
  cases n with
  | zero => exact h.elim
  | succ n =>
    simp only [has, Try.underlying3] at h
    obtain ⟨s, e, hs⟩ := h
    simp only [List.cons.injEq, and_true] at e
    exact ⟨s, e, hs⟩
theorem strs_of {n : Nat} {y : AV} (h : isOf Try.prog (has Try.prog n) 24 y) : ∃ ss : List S, y = strs ss ∧ ss.length ≤ maxLen ∧ ∀ s ∈ ss, s.length ≤ maxLen := by
  rcases h with ⟨h, _⟩ | ⟨_, h⟩
  · simp at h
  cases n with
  | zero => exact h.elim
  | succ n =>
    simp only [has, Try.underlying24] at h
    obtain ⟨ys, e, hl, hy⟩ := h
    simp only [List.cons.injEq, and_true] at e
    have key : ∀ l : List AV, (∀ y ∈ l, isOf Try.prog (has Try.prog n) 9 y) → ∃ ss : List S, l = ss.map .str ∧ ∀ s ∈ ss, s.length ≤ maxLen := by
      intro l
      induction l with
      | nil => intro _; exact ⟨[], rfl, by simp⟩
      | cons a l ih =>
        intro h
        obtain ⟨ss, e1, e2⟩ := ih fun y hy => h y (List.mem_cons_of_mem _ hy)
        rcases h a (by simp) with ⟨h, _⟩ | ⟨_, h⟩
        · simp at h
        cases n with
        | zero => exact h.elim
        | succ n =>
          simp only [has, Try.underlying9] at h
          obtain ⟨s, e3, e4⟩ := h
          simp only [List.cons.injEq, and_true] at e3
          subst e3
          exact ⟨s :: ss, by simp [e1], by simpa using ⟨e4, e2⟩⟩
    obtain ⟨ss, e1, e2⟩ := key ys hy
    subst e1
    exact ⟨ss, e, by simpa using hl, e2⟩
end Go.Proofs.Ytnifldbmflkmpaa
