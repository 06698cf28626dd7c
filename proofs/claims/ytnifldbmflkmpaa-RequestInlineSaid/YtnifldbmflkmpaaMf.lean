/-
  Parts, one behind the other: Rh, Ri, Rj, Rk, Qa, Shelf, Qb, ShelfS, Qc, ShelfG, Qd, Fl, Fo.
-/
import Derived.Test.YtnifldbmflkmpaaProg
import Derived.Shelf.Strings.BuilderK
import Derived.WalkKit
import Derived.BigCall
import Derived.Shelf.Strings.Builder1
import Derived.Shelf.Small.Strs
import Derived.Shelf.Strings.BuilderF
import Derived.Shelf.Strings.Search1
import Derived.Lib.Walk
import Derived.Lib.Strings
import Derived.BigGuard
import Derived.Shelf.Sort.Plain
import Derived.Ground.Names2Prog
import Derived.Shelf.Slices.Clone
import Derived.Shelf.Slices.CompactS
import Derived.Shelf.Slices.In.SortNone
import Derived.Sort.OwnSorted
import Derived.Sort.Grow
import Derived.Lib.OwnBridge
import Derived.Shelf.Spec.SlicesGrow
import Derived.OwnWalk
import Derived.Laws.AppendOwnNone
import Derived.Test.YtnifldbmflkmpaaRows
import Derived.Test.YtnifldbmflkmpaaMe
/-
  RequestBack's run.
-/
namespace Go.Proofs.Ytnifldbmflkmpaa
open Go Ev
set_option linter.unusedVariables false
set_option linter.unusedSimpArgs false
set_option maxRecDepth 10000
theorem Grow.elems {n : Nat} {h : Heap} {x : AV} {xs : List AV} (g : Grow n h x xs) (hx : headOk n xs = true) : elemsA h n x = some xs := by
  rcases g with ⟨rfl, rfl⟩ | ⟨τ, rfl, _⟩ | ⟨nn, rfl⟩ <;> simp [elemsA, hx]
theorem Grow.one {n : Nat} {h : Heap} {x : AV} {xs : List AV} (g : Grow n h x xs) : x.one = true := by
  rcases g with ⟨rfl, rfl⟩ | ⟨τ, rfl, _⟩ | ⟨nn, rfl⟩ <;> rfl
/-- The commands that were printed. -/
def pre (cmds : List (List S)) (i : Nat) : List (List S) := (cmds.take i).filter okC
theorem pre_succ (cmds : List (List S)) (i : Nat) (h : i < cmds.length) : pre cmds (i + 1) = pre cmds i ++ (if okC cmds[i] = true then [cmds[i]] else []) := by
  unfold pre
  rw [List.take_add_one, List.getElem?_eq_getElem h]
  simp only [Option.toList, List.filter_append, List.filter_cons, List.filter_nil]
theorem pre_len (cmds : List (List S)) (i : Nat) : (pre cmds i).length ≤ cmds.length := by
  unfold pre
  have := List.length_filter_le okC (cmds.take i)
  rw [List.length_take] at this
  omega
theorem pre_mem {cmds : List (List S)} {i : Nat} {x : List S} (h : x ∈ pre cmds i) : x.length ≤ 128 := by
  unfold pre at h
  have := (List.mem_filter.1 h).2
  exact (okC_iff this).2.1
/-- What is true ahead of the i-th command: the reader, what was wanted, what came. -/
structure Mid (cmds : List (List S)) (i q : Nat) (h : Heap) (W G : AV) (cur : S) (got : List (List S)) (want : List (List S)) : Prop where
  gw : Grow 1 h W (want.map strs)
  gg : Grow 1 h G (got.map strs)
  hq : h[q]? = some (.cells [.str cur, .int .i64 0])
  ap : ∀ j, tokOf W = some j → tokOf G ≠ some j
  nw : tokOf W ≠ some q
  ng : tokOf G ≠ some q
theorem Mid.growW {cmds : List (List S)} {i q : Nat} {h h' : Heap} {W W' G : AV} {cur : S} {got want want' : List (List S)} (m : Mid cmds i q h W G cur got want) (g : Grow 1 h' W' (want'.map strs)) (s : Stays W h W' h') : Mid cmds i q h' W' G cur got want' where
  gw := g
  gg := m.gg.stays s fun j e => by intro e'; exact m.ap j e' e
  hq := by rw [s.old q (List.getElem?_eq_some_iff.1 m.hq).1 m.nw]; exact m.hq
  ap := fun j e => by
    rcases s.tok with k | k
    · rw [k] at e; exact m.ap j e
    · intro e'; have := m.gg.tok_lt e'; have := k j e; omega
  nw := fun e => by
    rcases s.tok with k | k
    · rw [k] at e; exact m.nw e
    · have := k q e; have := (List.getElem?_eq_some_iff.1 m.hq).1; omega
  ng := m.ng
theorem Mid.growG {cmds : List (List S)} {i q : Nat} {h h' : Heap} {W G G' : AV} {cur : S} {got got' want : List (List S)} (m : Mid cmds i q h W G cur got want) (g : Grow 1 h' G' (got'.map strs)) (s : Stays G h G' h') : Mid cmds i q h' W G' cur got' want where
  gg := g
  gw := m.gw.stays s fun j e => m.ap j e
  hq := by rw [s.old q (List.getElem?_eq_some_iff.1 m.hq).1 m.ng]; exact m.hq
  ap := fun j e => by
    rcases s.tok with k | k
    · rw [k]; exact m.ap j e
    · intro e'; have := m.gw.tok_lt e; have := k j e'; omega
  ng := fun e => by
    rcases s.tok with k | k
    · rw [k] at e; exact m.ng e
    · have := k q e; have := (List.getElem?_eq_some_iff.1 m.hq).1; omega
  nw := m.nw
theorem Mid.fed {cmds : List (List S)} {i q : Nat} {h h' : Heap} {W G v : AV} {cur CUR : S} {got want RES : List (List S)} (m : Mid cmds i q h W G cur got want) (f : Fed RES CUR q h v h') : Mid cmds i q h' W G CUR got want where
  gw := by
    rcases m.gw with g | ⟨τ, e, g⟩ | g
    · exact .inl g
    · exact .inr (.inl ⟨τ, e, by rw [f.old τ (List.getElem?_eq_some_iff.1 g).1 (fun h => m.nw (by rw [e]; simp [tokOf, h]))]; exact g⟩)
    · exact .inr (.inr g)
  gg := by
    rcases m.gg with g | ⟨τ, e, g⟩ | g
    · exact .inl g
    · exact .inr (.inl ⟨τ, e, by rw [f.old τ (List.getElem?_eq_some_iff.1 g).1 (fun h => m.ng (by rw [e]; simp [tokOf, h]))]; exact g⟩)
    · exact .inr (.inr g)
  hq := f.cur
  ap := m.ap
  nw := m.nw
  ng := m.ng
theorem bytes_cut (E : S) (a b : Nat) : ((ofBytes E).take b).drop a = ofBytes ((E.take b).drop a) := by
  simp [ofBytes]
theorem wrap_sum (a b : Nat) (h : a + b < 2 ^ 61) : IntKind.wrap .i64 ((a : Int) + (b : Int)) = ((a + b : Nat) : Int) := by
  rw [← wrap_nat (a + b) (by omega)]; simp
theorem min_nat (a b : Nat) : (if (b : Int) < (a : Int) then AV.int .i64 (b : Int) else .int .i64 (a : Int)) = .int .i64 ((min a b : Nat) : Int) := by
  by_cases h : b < a
  · rw [if_pos (by omega), Nat.min_eq_right (by omega)]
  · rw [if_neg (by omega), Nat.min_eq_left (by omega)]
set_option maxHeartbeats 8000000 in
theorem requestBack_ev (cmds : List (List S)) : ∃ k h d, evalF cfg k 10 [strss cmds] [] = some (.bool true, h, d) := by
  refine law_of_body (by decide) Try.func10 rfl ?_
  have aw := awake5_ok
  refine Ev.seq (Ev.region ?_)
  apply EvOps.keep (h' := []) (d' := false) (fun fr => fr.length = 121 ∧ slotAt fr 0 = some (strss cmds))
  · intro call; simp [Try.f10]; exact rfl
  · exact ⟨by simp, by simp⟩
  rintro fr ⟨hl, h0⟩
  refine Ev.seq (Ev.seq (Ev.region ?_))
  refine EvOps.call rfl (by simp) (by simp <;> exact rfl) (by simp <;> exact rfl) aw ?_
  by_cases g10 : 10 < cmds.length
  · apply EvOps.keep (h' := []) (d' := false) (fun fr => fr.length = 121 ∧ slotAt fr 18 = some (.bool true))
    · intro call; simp [hl, h0, strss, show (10 : Int) < cmds.length by omega]; exact rfl
    · exact ⟨by simp [hl], by simp [hl]⟩
    clear hl h0 fr
    rintro fr ⟨hl, h18⟩
    refine Ev.cond true (by simp [h18]) (fun _ => ?_) (fun h => by simp at h)
    refine Ev.seq (Ev.region ?_)
    refine EvOps.call rfl (by simp) (by simp <;> exact rfl) (by simp <;> exact rfl) aw ?_
    apply EvOps.run
    · intro call; simp [hl]; exact rfl
    exact Ev.ret ⟨by simp, by simp [Try.f10, hl]⟩
  apply EvOps.keep (h' := []) (d' := false) (fun fr => fr.length = 121 ∧ slotAt fr 0 = some (strss cmds) ∧ slotAt fr 18 = some (.bool false))
  · intro call; simp [hl, h0, strss, show ¬ (10 : Int) < cmds.length by omega]; exact rfl
  · exact ⟨by simp [hl], by simp [h0, strss], by simp [hl]⟩
  clear hl h0 fr
  rintro fr ⟨hl, h0, h18⟩
  refine Ev.cond false (by simp [h18]) (fun h => by simp at h) (fun _ => Ev.skip ?_)
  refine Ev.seq (Ev.region ?_)
  apply EvOps.run
  · intro call; simp; exact rfl
  refine Ev.seq (Ev.region ?_)
  refine EvOps.calli rfl rfl (by simp) (by simp <;> exact rfl) (new_ok []) ?_
  rintro v h' d' ⟨rfl, rfl⟩
  apply EvOps.keep (h' := [.cells [.str [], .int .i64 0]]) (d' := d') (fun fr => fr.length = 121 ∧ slotAt fr 0 = some (strss cmds) ∧ slotAt fr 3 = some .nils ∧ slotAt fr 4 = some (.ptr 0 0))
  · intro call; simp [hl]; exact rfl
  · exact ⟨by simp [hl], by simp [h0], by simp [hl], by simp [hl]⟩
  clear hl h0 h18 fr
  rintro fr ⟨hl, h0, h3, h4⟩
  refine Ev.seq (Ev.seq (Ev.region ?_))
  apply EvOps.run
  · intro call; simp [hl, h4]; exact rfl
  refine Ev.cond false (by simp [hl]) (fun h => by simp at h) (fun _ => Ev.skip ?_)
  refine Ev.seq (Ev.region ?_)
  apply EvOps.run
  · intro call; simp; exact rfl
  refine Ev.seq (Ev.seq (Ev.region ?_))
  apply EvOps.run
  · intro call; simp; exact rfl
  refine Ev.block ?_
  refine Ev.loop (fun m st => ∃ (fr : List AV) (h : Heap) (d : Bool) (W G : AV) (i : Nat), st = ⟨fr, h, d⟩ ∧ fr.length = 121 ∧ slotAt fr 0 = some (strss cmds) ∧ slotAt fr 3 = some W ∧ slotAt fr 4 = some (.ptr 0 0) ∧ slotAt fr 5 = some G ∧ slotAt fr 6 = some (.int .i64 (i : Nat)) ∧ i ≤ cmds.length ∧ Mid cmds i 0 h W G [] (pre cmds i) (pre cmds i) ∧ m = cmds.length - i) ?_ cmds.length _ ?_
  · clear hl h0 h3 h4 fr
    rintro m st ⟨fr, h, d, W, G, i, rfl, hl, h0, h3, h4, h5, h6, hi, mid, rfl⟩
    refine Ev.seq (Ev.seq (Ev.region ?_))
    apply EvOps.run
    · intro call; simp [hl, h0, h6, strss]; exact rfl
    refine Ev.cond (decide (i < cmds.length)) (by simp [hl]) (fun hc => Ev.skip ?_) (fun hc => Ev.exit ?_)
    · simp only [decide_eq_true_eq] at hc
      obtain ⟨ws, hws⟩ : ∃ ws, ws = cmds[i] := ⟨_, rfl⟩
      refine Ev.seq (Ev.block (Ev.seq (Ev.seq (Ev.region ?_))))
      by_cases g130 : 130 < ws.length
      · apply EvOps.keep (h' := h) (d' := d) (fun fr => fr.length = 121 ∧ slotAt fr 34 = some (.bool true))
        · intro call; simp [hl, h0, h6, strss, hc, ← hws, strs, show (130 : Int) < ws.length by omega]; exact rfl
        · exact ⟨by simp [hl], by simp [hl]⟩
        clear hl h0 h3 h4 h5 h6 fr
        rintro fr ⟨hl, h34⟩
        refine Ev.cond true (by simp [h34]) (fun _ => ?_) (fun h => by simp at h)
        refine Ev.seq (Ev.region ?_)
        apply EvOps.run
        · intro call; simp [hl]; exact rfl
        exact Ev.ret ⟨by simp, by simp [Try.f10, hl]⟩
      apply EvOps.keep (h' := h) (d' := d) (fun fr => fr.length = 121 ∧ slotAt fr 0 = some (strss cmds) ∧ slotAt fr 3 = some W ∧ slotAt fr 4 = some (.ptr 0 0) ∧ slotAt fr 5 = some G ∧ slotAt fr 6 = some (.int .i64 (i : Nat)) ∧ slotAt fr 34 = some (.bool false))
      · intro call; simp [hl, h0, h6, strss, hc, ← hws, strs, show ¬ (130 : Int) < ws.length by omega]; exact rfl
      · exact ⟨by simp [hl], by simp [h0, strss], by simp [h3], by simp [h4], by simp [h5], by simp [h6], by simp [hl]⟩
      clear hl h0 h3 h4 h5 h6 fr
      rintro fr ⟨hl, h0, h3, h4, h5, h6, h34⟩
      refine Ev.cond false (by simp [h34]) (fun h => by simp at h) (fun _ => Ev.skip ?_)
      -- are the words short?
      refine Ev.seq (Ev.seq (Ev.region ?_))
      apply EvOps.run
      · intro call; simp; exact rfl
      refine Ev.block ?_
      refine Ev.loop (fun m st => ∃ (fr : List AV) (k : Nat), st = ⟨fr, h, d⟩ ∧ fr.length = 121 ∧ slotAt fr 0 = some (strss cmds) ∧ slotAt fr 3 = some W ∧ slotAt fr 4 = some (.ptr 0 0) ∧ slotAt fr 5 = some G ∧ slotAt fr 6 = some (.int .i64 (i : Nat)) ∧ slotAt fr 7 = some (.int .i64 (k : Nat)) ∧ k ≤ ws.length ∧ (∀ t (ht : t < ws.length), t < k → ws[t].length ≤ 4100) ∧ m = ws.length - k) ?_ ws.length _ ?_
      · clear hl h0 h3 h4 h5 h6 h34 fr
        rintro m st ⟨fr, k, rfl, hl, h0, h3, h4, h5, h6, h7, hk, hsm, rfl⟩
        refine Ev.seq (Ev.seq (Ev.region ?_))
        apply EvOps.run
        · intro call; simp [hl, h0, h6, h7, strss, hc, ← hws, strs]; exact rfl
        refine Ev.cond (decide (k < ws.length)) (by simp [hl]) (fun hk1 => Ev.skip ?_) (fun hk1 => Ev.exit ?_)
        · simp only [decide_eq_true_eq] at hk1
          refine Ev.seq (Ev.block (Ev.seq (Ev.region ?_)))
          apply EvOps.run
          · intro call; simp [hl, h0, h6, h7, strss, hc, ← hws, strs, hk1]; exact rfl
          refine Ev.cond (decide (4100 < ws[k].length)) (by simp [hl]; omega) (fun hw4 => ?_) (fun hw4 => Ev.skip ?_)
          · refine Ev.seq (Ev.region ?_)
            apply EvOps.run
            · intro call; simp [hl]; exact rfl
            exact Ev.ret ⟨by simp, by simp [Try.f10, hl]⟩
          · simp only [decide_eq_false_iff_not] at hw4
            refine Ev.region ?_
            apply EvOps.run
            · intro call; simp [hl, h7, wrap_succ k (by omega)]; exact rfl
            refine ⟨ws.length - (k + 1), by omega, _, k + 1, rfl, by simp [hl], by simp [h0], by simp [h3], by simp [h4], by simp [h5], by simp [h6], by simp [hl], by omega, fun t ht h => ?_, rfl⟩
            by_cases e : t = k
            · subst e; omega
            · exact hsm t ht (by omega)
        · simp only [decide_eq_false_iff_not] at hk1
          have hwall : ∀ w ∈ ws, w.length ≤ 5000 := fun w hw => by
            obtain ⟨t, ht, rfl⟩ := List.getElem_of_mem hw
            have := hsm t ht (by omega)
            omega
          clear hsm
          -- printed
          have hprint := printC_ok ws (by omega)
          have hrefp := refCmd_ok ws (by omega) hwall
          obtain ⟨E, hE⟩ : ∃ E, E = if okC ws = true then encC ws else [] := ⟨_, rfl⟩
          rw [← hE] at hprint hrefp
          have hElen : E.length ≤ 600000 := by
            rw [hE]
            split
            · rename_i hk; exact encC_len hk
            · simp
          have hEne : E ≠ [] ↔ okC ws = true := by
            rw [hE]
            split
            · rename_i hk; simp [hk, encC, headS]
            · rename_i hk; simp [hk]
          refine Ev.seq (Ev.region (EvOps.take 4 ?_))
          apply EvOps.run
          · intro call; simp [hl, h0, h6, strss, hc, ← hws, strs]; exact rfl
          refine EvOps.call rfl (by simp) (by simp [hl] <;> exact rfl) (by simp [strs] <;> exact rfl) hprint ?_
          apply EvOps.keep (h' := h) (d' := d) (fun fr => fr.length = 121 ∧ slotAt fr 0 = some (strss cmds) ∧ slotAt fr 3 = some W ∧ slotAt fr 4 = some (.ptr 0 0) ∧ slotAt fr 5 = some G ∧ slotAt fr 6 = some (.int .i64 (i : Nat)) ∧ slotAt fr 8 = some (.L (ofBytes E)))
          · intro call; simp [hl]; exact rfl
          · exact ⟨by simp [hl], by simp [h0, strss], by simp [h3], by simp [h4], by simp [h5], by simp [h6], by simp [hl]⟩
          clear hl h0 h3 h4 h5 h6 h7 fr
          rintro fr ⟨hl, h0, h3, h4, h5, h6, h8⟩
          refine Ev.seq (Ev.seq (Ev.region (EvOps.take 6 ?_)))
          apply EvOps.run
          · intro call; simp [hl, h0, h6, h8, strss, hc, ← hws, bytesOf_ofBytes, strs]; exact rfl
          refine EvOps.call rfl (by simp) (by simp [hl] <;> exact rfl) (by simp [strs] <;> exact rfl) hrefp ?_
          apply EvOps.keep (h' := h) (d' := d) (fun fr => fr.length = 121 ∧ slotAt fr 0 = some (strss cmds) ∧ slotAt fr 3 = some W ∧ slotAt fr 4 = some (.ptr 0 0) ∧ slotAt fr 5 = some G ∧ slotAt fr 6 = some (.int .i64 (i : Nat)) ∧ slotAt fr 8 = some (.L (ofBytes E)) ∧ slotAt fr 65 = some (.bool false))
          · intro call; simp [hl]; exact rfl
          · exact ⟨by simp [hl], by simp [h0, strss], by simp [h3], by simp [h4], by simp [h5], by simp [h6], by simp [h8], by simp [hl]⟩
          clear hl h0 h3 h4 h5 h6 h8 fr
          rintro fr ⟨hl, h0, h3, h4, h5, h6, h8, h65⟩
          refine Ev.cond false (by simp [h65]) (fun h => by simp at h) (fun _ => Ev.skip ?_)
          -- want
          have hpl := pre_len cmds i
          refine Ev.mid (fun st => ∃ (fr : List AV) (h : Heap) (d : Bool) (W : AV), st = ⟨fr, h, d⟩ ∧ fr.length = 121 ∧ slotAt fr 0 = some (strss cmds) ∧ slotAt fr 3 = some W ∧ slotAt fr 4 = some (.ptr 0 0) ∧ slotAt fr 5 = some G ∧ slotAt fr 6 = some (.int .i64 (i : Nat)) ∧ slotAt fr 8 = some (.L (ofBytes E)) ∧ Mid cmds i 0 h W G [] (pre cmds i) (pre cmds (i + 1))) ?_ ?_
          · refine Ev.seq (Ev.region ?_)
            by_cases hok : okC ws = true
            · have hEpos := List.length_pos_iff.2 (hEne.2 hok)
              apply EvOps.run
              · intro call; simp [hl, h8, ofBytes_length]; exact rfl
              refine Ev.cond true (by simp [hl]; omega) (fun _ => ?_) (fun h => by simp at h)
              refine Ev.region (EvOps.take 6 ?_)
              apply EvOps.run
              · intro call; simp [hl, h0, h3, h6, strss, hc, ← hws, buildSliceA, strs]; exact rfl
              refine EvOps.append (x := W) (y := .list [strs ws] true (some 1) none) rfl rfl (by simp) (by simp [hl, strs]) Try.underlying22 Try.underlying22 rfl Ty.s24 Ty.b24 Ty.z24 rfl mid.gw (by simp) (ys := [strs ws]) (by simp [elemsA, strs]) (by simp; omega) ?_
              intro W' h' gw' st'
              apply EvOps.run
              · intro call; simp [hl]; exact rfl
              refine ⟨_, h', d, W', rfl, by simp [hl], by simp [h0], by simp [hl], by simp [h4], by simp [h5], by simp [h6], by simp [h8], ?_⟩
              exact mid.growW (by rw [pre_succ cmds i hc, ← hws, if_pos hok]; simpa using gw') st'
            · have hE0 : E = [] := by
                rcases Classical.em (E = []) with e | e
                · exact e
                · exact (hok (hEne.1 e)).elim
              apply EvOps.run
              · intro call; simp [hl, h8, hE0, ofBytes]; exact rfl
              refine Ev.cond false (by simp [hl]) (fun h => by simp at h) (fun _ => Ev.skip ?_)
              refine ⟨_, h, d, W, rfl, by simp [hl], by simp [h0], by simp [h3], by simp [h4], by simp [h5], by simp [h6], by simp [h8, hE0, ofBytes], ?_⟩
              rw [pre_succ cmds i hc, ← hws, if_neg hok, List.append_nil]
              exact mid
          clear hl h0 h3 h4 h5 h6 h8 h65 mid W h d fr
          rintro st ⟨fr, h, d, W, rfl, hl, h0, h3, h4, h5, h6, h8, mid⟩
          refine Ev.seq (Ev.region ?_)
          apply EvOps.run
          · intro call; simp; exact rfl
          refine Ev.block ?_
          refine Ev.loop (fun m st => ∃ (fr : List AV) (h : Heap) (d : Bool) (G : AV) (k : Nat), st = ⟨fr, h, d⟩ ∧ fr.length = 121 ∧ slotAt fr 0 = some (strss cmds) ∧ slotAt fr 3 = some W ∧ slotAt fr 4 = some (.ptr 0 0) ∧ slotAt fr 5 = some G ∧ slotAt fr 6 = some (.int .i64 (i : Nat)) ∧ slotAt fr 8 = some (.L (ofBytes E)) ∧ slotAt fr 9 = some (.int .i64 (k : Nat)) ∧ k ≤ 1000000 ∧ ((k < E.length ∧ Mid cmds i 0 h W G (E.take k) (pre cmds i) (pre cmds (i + 1))) ∨ (E.length ≤ k ∧ Mid cmds i 0 h W G [] (pre cmds (i + 1)) (pre cmds (i + 1)))) ∧ m = 1000000 - k) ?_ 1000000 _ ?_
          · clear hl h0 h3 h4 h5 h6 h8 mid h d fr G
            rintro m st ⟨fr, h, d, G, k, rfl, hl, h0, h3, h4, h5, h6, h8, h9, hk, hst, rfl⟩
            refine Ev.seq (Ev.seq (Ev.region ?_))
            apply EvOps.run
            · intro call; simp [hl, h8, h9, ofBytes_length]; exact rfl
            refine Ev.cond (decide (k < E.length)) (by simp [hl]) (fun hk2 => Ev.skip ?_) (fun hk2 => Ev.exit ?_)
            · simp only [decide_eq_true_eq] at hk2
              have mid : Mid cmds i 0 h W G (E.take k) (pre cmds i) (pre cmds (i + 1)) := by
                rcases hst with ⟨_, h⟩ | ⟨h, _⟩
                · exact h
                · omega
              clear hst
              have hok : okC ws = true := hEne.1 (by intro e; simp [e] at hk2)
              have hEe : E = encC ws := by rw [hE, if_pos hok]
              obtain ⟨a, ha⟩ : ∃ a, a = min E.length (k + 7) := ⟨_, rfl⟩
              obtain ⟨b, hb⟩ : ∃ b, b = min E.length (k + 50) := ⟨_, rfl⟩
              have hka : k ≤ a := by omega
              have hab : a ≤ b := by omega
              have hbE : b ≤ E.length := by omega
              have hw7 : IntKind.wrap .i64 ((k : Int) + 7) = (k : Int) + 7 := wrap_int _ (by omega) (by omega)
              have hw50 : IntKind.wrap .i64 ((k : Int) + 50) = (k : Int) + 50 := wrap_int _ (by omega) (by omega)
              have hm7 : (if (k : Int) + 7 < (E.length : Int) then (k : Int) + 7 else (E.length : Int)) = ((a : Nat) : Int) := by split <;> omega
              have hm50 : (if (k : Int) + 50 < (E.length : Int) then (k : Int) + 50 else (E.length : Int)) = ((b : Nat) : Int) := by split <;> omega
              have hflat : [(E.take a).drop k, (E.take b).drop a].flatten = (E.take b).drop k := by
                simp only [List.flatten_cons, List.flatten_nil, List.append_nil]
                have e1 : (E.take a).drop k = ((E.take b).take a).drop k := by rw [List.take_take, Nat.min_eq_left hab]
                have e2 : (E.take b).drop k = ((E.take b).take a).drop k ++ (E.take b).drop a := by
                  conv => lhs; rw [← List.take_append_drop a (E.take b)]
                  rw [List.drop_append_of_le_length (by rw [List.length_take, List.length_take]; omega)]
                rw [e1, e2]
              have hcat : E.take k ++ (E.take b).drop k = E.take b := by
                conv => rhs; rw [← List.take_append_drop k (E.take b)]
                rw [List.take_take, Nat.min_eq_left (by omega)]
              have hfl : [(E.take a).drop k, (E.take b).drop a].flatten.length ≤ 600000 := by
                rw [hflat, List.length_drop, List.length_take]; omega
              have hend0 : Ret cfg 75 [.str []] (.tuple [strs [], .int .i64 0, .int .i64 0]) := cmd_none [] (by simp) (by simp)
              obtain ⟨RES, CUR, hcase, hendC, hR⟩ : ∃ RES CUR, ((RES = [] ∧ CUR = E.take k ++ [(E.take a).drop k, (E.take b).drop a].flatten) ∨ (∃ xs : List S, RES = [xs] ∧ CUR = [] ∧ xs ≠ [] ∧ xs.length ≤ 1000 ∧ E.take k ++ [(E.take a).drop k, (E.take b).drop a].flatten ≠ [] ∧ Ret cfg 75 [.str (E.take k ++ [(E.take a).drop k, (E.take b).drop a].flatten)] (.tuple [strs xs, .int .i64 ((E.take k ++ [(E.take a).drop k, (E.take b).drop a].flatten).length : Nat), .int .i64 0]))) ∧
                  Ret cfg 75 [.str CUR] (.tuple [strs [], .int .i64 0, .int .i64 0]) ∧ ((RES = [] ∧ k + 50 < E.length ∧ CUR = E.take (k + 50)) ∨ (RES = [ws] ∧ E.length ≤ k + 50 ∧ CUR = [])) := by
                rw [hflat, hcat]
                by_cases hlast : k + 50 < E.length
                · have hbk : b = k + 50 := by omega
                  refine ⟨[], E.take b, .inl ⟨rfl, rfl⟩, ?_, .inl ⟨rfl, hlast, by rw [hbk]⟩⟩
                  exact cmd_part ws hok (E.take b) (E.drop b) (by rw [List.take_append_drop, hEe]) (by
                    intro e
                    have : (E.drop b).length = 0 := by rw [e]; rfl
                    rw [List.length_drop] at this
                    omega)
                · have hbk : b = E.length := by omega
                  refine ⟨[ws], [], .inr ⟨ws, rfl, rfl, ?_, ?_, ?_, ?_⟩, hend0, .inr ⟨rfl, by omega, rfl⟩⟩
                  · intro e
                    have := (okC_iff hok).1
                    simp [e] at this
                  · have := (okC_iff hok).2.1
                    omega
                  · rw [hbk, List.take_length]
                    intro e
                    simp [e] at hk2
                  · rw [hbk, List.take_length, hEe]
                    exact cmd_whole ws hok
              have hfeed := feed_ok h 0 (E.take k) mid.hq (.list [.list (ofBytes ((E.take a).drop k)) false none none, .list (ofBytes ((E.take b).drop a)) false none none] true (some 2) none) [(E.take a).drop k, (E.take b).drop a] (by simp [chunks, stripL_bytes]) (by simp) (by simp) (by rw [List.length_take]; omega) RES CUR hendC hcase
              refine Ev.seq (Ev.block (Ev.seq (Ev.region (EvOps.take 22 ?_))))
              apply EvOps.run
              · intro call
                simp [hl, h4, h8, h9, ofBytes_length, minsA, minA, hw7, hw50, hm7, hm50, sliceA, headOk_bytes, bytes_cut, show (k : Int) ≤ (a : Nat) by omega, show (a : Int) ≤ (b : Nat) by omega, show a ≤ E.length by omega, show b ≤ E.length by omega, hka, hab, buildSliceA]
                exact rfl
              refine EvOps.calli rfl rfl (by simp) (by simp [hl]; exact rfl) (by simpa using hfeed) ?_
              rintro v h1 d1 fed
              obtain ⟨o, rfl, go, to⟩ := fed.out
              have mid1 := mid.fed fed
              apply EvOps.keep (h' := h1) (d' := d || d1) (fun fr => fr.length = 121 ∧ slotAt fr 0 = some (strss cmds) ∧ slotAt fr 3 = some W ∧ slotAt fr 4 = some (.ptr 0 0) ∧ slotAt fr 5 = some G ∧ slotAt fr 6 = some (.int .i64 (i : Nat)) ∧ slotAt fr 8 = some (.L (ofBytes E)) ∧ slotAt fr 9 = some (.int .i64 (k : Nat)) ∧ slotAt fr 10 = some o ∧ slotAt fr 11 = some (.int .i64 0))
              · intro call; simp [hl]; exact rfl
              · exact ⟨by simp [hl], by simp [h0], by simp [h3], by simp [h4], by simp [h5], by simp [h6], by simp [h8], by simp [h9], by simp [hl], by simp [hl]⟩
              clear hl h0 h3 h4 h5 h6 h8 h9 fr
              rintro fr ⟨hl, h0, h3, h4, h5, h6, h8, h9, h10, h11⟩
              refine Ev.seq (Ev.seq (Ev.region ?_))
              apply EvOps.run
              · intro call; simp [hl, h11]; exact rfl
              refine Ev.cond false (by simp [hl]) (fun h => by simp at h) (fun _ => Ev.skip ?_)
              have hpl := pre_len cmds i
              refine Ev.region (EvOps.take 2 ?_)
              apply EvOps.run
              · intro call; simp [hl, h5, h10]; exact rfl
              refine EvOps.append (x := G) (y := o) rfl rfl (by simp) (by simp [hl]) Try.underlying22 Try.underlying22 rfl Ty.s24 Ty.b24 Ty.z24 rfl mid1.gg (headOk_strss _) (ys := RES.map strs) (Grow.elems go (headOk_strss _)) (by
                have : RES.length ≤ 1 := by rcases hR with ⟨e, _⟩ | ⟨e, _⟩ <;> simp [e]
                simp; omega) ?_
              intro G' h2 gg' st'
              apply EvOps.run
              · intro call; simp [hl]; exact rfl
              simp only [onBlock]
              refine Ev.region ?_
              apply EvOps.run
              · intro call; simp [hl, h9, hw50]; exact rfl
              refine ⟨1000000 - (k + 50), by omega, _, h2, _, G', k + 50, rfl, by simp [hl], by simp [h0], by simp [h3], by simp [h4], by simp [hl], by simp [h6], by simp [h8], by simp [hl], by omega, ?_, rfl⟩
              rcases hR with ⟨rfl, hlt, rfl⟩ | ⟨rfl, hge, rfl⟩
              · refine .inl ⟨hlt, mid1.growG (by simpa using gg') st'⟩
              · refine .inr ⟨hge, mid1.growG ?_ st'⟩
                rw [pre_succ cmds i hc, ← hws, if_pos hok, List.map_append]
                exact gg'
            · simp only [decide_eq_false_iff_not] at hk2
              have mid : Mid cmds i 0 h W G [] (pre cmds (i + 1)) (pre cmds (i + 1)) := by
                rcases hst with ⟨h, _⟩ | ⟨_, h⟩
                · omega
                · exact h
              refine Ev.region ?_
              apply EvOps.run
              · intro call; simp [hl, h6, wrap_succ i (by omega)]; exact rfl
              exact ⟨cmds.length - (i + 1), by omega, _, h, d, W, G, i + 1, rfl, by simp [hl], by simp [h0], by simp [h3], by simp [h4], by simp [h5], by simp [hl], by omega, ⟨mid.gw, mid.gg, mid.hq, mid.ap, mid.nw, mid.ng⟩, rfl⟩
          · refine ⟨_, h, d, G, 0, rfl, by simp [hl], by simp [h0], by simp [h3], by simp [h4], by simp [h5], by simp [h6], by simp [h8], by simp [hl], by omega, ?_, rfl⟩
            by_cases hE0 : E = []
            · refine .inr ⟨by simp [hE0], ?_⟩
              have hok : ¬ okC ws = true := fun e => hEne.2 e hE0
              have : pre cmds (i + 1) = pre cmds i := by rw [pre_succ cmds i hc, ← hws, if_neg hok, List.append_nil]
              rw [this] at mid ⊢
              exact mid
            · exact .inl ⟨List.length_pos_iff.2 hE0, by simpa using mid⟩
      · exact ⟨_, 0, rfl, by simp [hl], by simp [h0], by simp [h3], by simp [h4], by simp [h5], by simp [h6], by simp [hl], by omega, fun t _ h => by omega, rfl⟩
    · simp only [decide_eq_false_iff_not] at hc
      have hin : i = cmds.length := by omega
      have hall : ∀ x ∈ pre cmds i, x.length < 2 ^ 60 := fun x hx => by have := pre_mem hx; omega
      have hpl := pre_len cmds i
      have hsame := sameC_ok (pre cmds i) (by omega) hall
      have hwait := waiting_ok h 0 [] mid.hq
      refine Ev.seq (Ev.region (EvOps.take 2 ?_))
      apply EvOps.run
      · intro call; simp [hl, h3, h5]; exact rfl
      refine EvOps.call rfl (by simp) (by simp [hl] <;> exact rfl) (by simp [mid.gw.strip, mid.gg.strip] <;> exact rfl) hsame ?_
      refine EvOps.take 2 ?_
      apply EvOps.run
      · intro call; simp [hl, h4]; exact rfl
      refine EvOps.calli rfl rfl (by simp [hl]) (by simp [hl] <;> exact rfl) hwait ?_
      rintro v h1 d1 ⟨rfl, rfl⟩
      apply EvOps.run
      · intro call; simp [hl]; exact rfl
      exact Ev.ret ⟨by simp, by simp [Try.f10, hl]⟩
  · exact ⟨_, _, _, .nils, .nils, 0, rfl, by simp [hl], by simp [h0], by simp [h3], by simp [h4], by simp [hl], by simp [hl], by omega, ⟨by simpa [pre] using Grow.nils 1 _, by simpa [pre] using Grow.nils 1 _, by simp, by simp [tokOf], by simp [tokOf], by simp [tokOf]⟩, rfl⟩
end Go.Proofs.Ytnifldbmflkmpaa

/-
  request.words; a command in a line.
-/
namespace Go.Proofs.Ytnifldbmflkmpaa
open Go Ev
set_option linter.unusedVariables false
set_option linter.unusedSimpArgs false
set_option maxRecDepth 10000
/-- The words of a line. -/
def wordsAux : S → S → List S
  | cur, [] => if cur = [] then [] else [cur]
  | cur, b :: s => if b = 32 then (if cur = [] then [] else [cur]) ++ wordsAux [] s else wordsAux (cur ++ [b]) s
def wordsL (s : S) : List S := wordsAux [] s
theorem wordsAux_free : ∀ (a cur r : S), (∀ b ∈ a, b ≠ 32) → wordsAux cur (a ++ r) = wordsAux (cur ++ a) r
  | [], cur, r, _ => by simp
  | b :: a, cur, r, h => by
    have hb : b ≠ 32 := h b (by simp)
    rw [List.cons_append, wordsAux, if_neg hb, wordsAux_free a _ r fun x hx => h x (List.mem_cons_of_mem _ hx)]
    simp
theorem wordsL_space (a r : S) (h : ∀ b ∈ a, b ≠ 32) : wordsL (a ++ 32 :: r) = (if a = [] then [] else [a]) ++ wordsL r := by
  unfold wordsL
  rw [wordsAux_free a [] _ h, List.nil_append, wordsAux, if_pos rfl]
theorem wordsL_last (a : S) (h : ∀ b ∈ a, b ≠ 32) : wordsL a = if a = [] then [] else [a] := by
  unfold wordsL
  have := wordsAux_free a [] [] h
  rw [List.append_nil, List.nil_append] at this
  rw [this, wordsAux]
theorem wordsAux_len : ∀ (s cur : S), (wordsAux cur s).length ≤ s.length + 1
  | [], cur => by unfold wordsAux; split <;> simp
  | b :: s, cur => by
    unfold wordsAux
    have h1 := wordsAux_len s []
    have h2 := wordsAux_len s (cur ++ [b])
    split
    · split <;> simp <;> omega
    · simp; omega
set_option maxHeartbeats 4000000 in
theorem words_cut (s0 : S) (hs : s0.length ≤ 2 ^ 30) : Ret cfg 87 [.str s0] (if 128 < (wordsL s0).length then .tuple [strs [], .int .i64 12] else .tuple [strs (wordsL s0), .int .i64 0]) := by
  have hwl : (wordsL s0).length ≤ s0.length + 1 := wordsAux_len s0 []
  refine Ret.of_body rfl rfl Try.func87 rfl (by simp) (by split <;> simp) ?_
  refine Ev.seq (Ev.region ?_)
  apply EvOps.keep (h' := []) (d' := false) (fun fr => fr.length = 38 ∧ slotAt fr 0 = some (.str s0))
  · intro call; simp [Try.f87]; exact rfl
  · exact ⟨by simp, by simp⟩
  rintro fr ⟨hl, h0⟩
  refine Ev.scope ?_
  refine Ev.seq (Ev.region ?_)
  apply EvOps.run
  · intro call; simp; exact rfl
  refine Ev.seq (Ev.label ?_)
  -- what is behind the loop
  refine Ev.mid (fun st => ∃ (fr : List AV) (h : Heap) (o : AV), st = ⟨fr, h, false⟩ ∧ fr.length = 38 ∧ slotAt fr 4 = some o ∧ Grow 1 h o ((wordsL s0).map .str)) ?_ ?_
  · refine Ev.block ?_
    refine Ev.loop (fun m st => ∃ (fr : List AV) (h : Heap) (o : AV) (out : List S) (s : S), st = ⟨fr, h, false⟩ ∧ fr.length = 38 ∧ slotAt fr 0 = some (.str s) ∧ slotAt fr 4 = some o ∧ Grow 1 h o (out.map .str) ∧ out ++ wordsL s = wordsL s0 ∧ s.length ≤ s0.length ∧ m = s.length) ?_ s0.length _ ?_
    · clear hl h0 fr
      rintro m st ⟨fr, h, o, out, s, rfl, hl, h0, h4, hg, hw, hsl, rfl⟩
      have hol : out.length ≤ s0.length + 1 := by rw [← hw, List.length_append] at hwl; omega
      refine Ev.seq (Ev.seq (Ev.region ?_))
      apply EvOps.run
      · intro call; simp [hl, h0]; exact rfl
      refine Ev.cond (!(s == [])) (by simp [hl]) (fun hne => Ev.skip ?_) (fun hne => Ev.exit ?_)
      · have hsne : s ≠ [] := by simpa using hne
        refine Ev.block ?_
        refine Ev.mid (fun st => ∃ (fr : List AV), st = ⟨fr, h, false⟩ ∧ fr.length = 38 ∧ slotAt fr 0 = some (.str s) ∧ slotAt fr 4 = some o ∧ ∀ b ∈ s, b ≠ 32) ?_ ?_
        · refine Ev.seq (Ev.region ?_)
          apply EvOps.run
          · intro call; simp [hl, h0]; exact rfl
          refine Ev.block ?_
          refine Ev.loop (fun m st => ∃ (fr : List AV) (i : Nat), st = ⟨fr, h, false⟩ ∧ fr.length = 38 ∧ slotAt fr 0 = some (.str s) ∧ slotAt fr 4 = some o ∧ slotAt fr 9 = some (.int .i64 (s.length : Nat)) ∧ slotAt fr 10 = some (.int .i64 (i : Nat)) ∧ i ≤ s.length ∧ (∀ b ∈ s.take i, b ≠ 32) ∧ m = s.length - i) ?_ s.length _ ?_
          · clear hl h0 h4 fr
            rintro m st ⟨fr, i, rfl, hl, h0, h4, h9, h10, hi, hfree, rfl⟩
            refine Ev.seq (Ev.region ?_)
            apply EvOps.run
            · intro call; simp [hl, h9, h10]; exact rfl
            refine Ev.seq ?_
            refine Ev.cond (decide (i < s.length)) (by simp [hl]) (fun hc => Ev.skip ?_) (fun hc => Ev.exit ?_)
            · simp only [decide_eq_true_eq] at hc
              have hgi : s[i]? = some s[i] := List.getElem?_eq_getElem hc
              refine Ev.seq (Ev.block (Ev.seq (Ev.region ?_)))
              apply EvOps.run
              · intro call; simp [hl, h10]; exact rfl
              refine Ev.seq (Ev.seq (Ev.region ?_))
              by_cases hb : s[i] = 32
              · apply EvOps.keep (h' := h) (d' := false) (fun fr => fr.length = 38 ∧ slotAt fr 0 = some (.str s) ∧ slotAt fr 4 = some o ∧ slotAt fr 5 = some (.int .i64 (i : Nat)) ∧ slotAt fr 16 = some (.bool false))
                · intro call; simp [hl, h0, h10, hgi, hb]; exact rfl
                · exact ⟨by simp [hl], by simp [h0], by simp [h4], by simp [hl], by simp [hl]⟩
                clear hl h0 h4 h9 h10 fr
                rintro fr ⟨hl, h0, h4, h5, h16⟩
                refine Ev.cond false (by simp [h16]) (fun h => by simp at h) (fun _ => Ev.skip ?_)
                have hsplit : s = s.take i ++ 32 :: s.drop (i + 1) := by
                  conv => lhs; rw [← List.take_append_drop i s, List.drop_eq_getElem_cons hc, hb]
                have hwords := wordsL_space (s.take i) (s.drop (i + 1)) hfree
                rw [← hsplit] at hwords
                have hti : s.take i = [] ↔ i = 0 := by
                  rw [List.take_eq_nil_iff]
                  constructor
                  · rintro (e | e)
                    · exact e
                    · exact (hsne e).elim
                  · exact .inl
                refine Ev.seq ?_
                refine Ev.mono (Q := onNormal (fun st => ∃ (fr : List AV) (h : Heap) (o : AV) (out' : List S), st = ⟨fr, h, false⟩ ∧ fr.length = 38 ∧ slotAt fr 0 = some (.str s) ∧ slotAt fr 4 = some o ∧ slotAt fr 5 = some (.int .i64 (i : Nat)) ∧ Grow 1 h o (out'.map .str) ∧ out' ++ wordsL (s.drop (i + 1)) = wordsL s0) (fun _ _ => False)) ?_ ?_
                · refine Ev.seq (Ev.region ?_)
                  apply EvOps.run
                  · intro call; simp [hl, h5]; exact rfl
                  refine Ev.cond (decide (0 < i)) (by simp [hl]) (fun hp => ?_) (fun hp => Ev.skip ?_)
                  · simp only [decide_eq_true_eq] at hp
                    refine Ev.region (EvOps.take 5 ?_)
                    apply EvOps.run
                    · intro call; simp [hl, h0, h4, h5, sliceA, buildSliceA, show (i : Int) ≤ s.length by omega]; exact rfl
                    refine EvOps.append (x := o) (y := .list [.str (s.take i)] true (some 1) none) rfl rfl (by simp) (by simp [hl]) Try.underlying24 Try.underlying24 rfl Ty.s9 Ty.b9 Ty.z9 rfl hg (headOk_strs _) (ys := [.str (s.take i)]) (by simp [elemsA]) (by simp; omega) ?_
                    intro o' h' hg' _
                    apply EvOps.run
                    · intro call; simp [hl]; exact rfl
                    refine ⟨_, h', o', out ++ [s.take i], rfl, by simp [hl], by simp [h0], by simp [hl], by simp [h5], by simpa using hg', ?_⟩
                    rw [← hw, hwords, if_neg (by rw [hti]; omega), List.append_assoc]
                  · simp only [decide_eq_false_iff_not] at hp
                    refine ⟨_, h, o, out, rfl, by simp [hl], by simp [h0], by simp [h4], by simp [h5], hg, ?_⟩
                    rw [← hw, hwords, if_pos (hti.2 (by omega)), List.nil_append]
                rintro x st hx
                cases x <;> simp only [onNormal] at hx ⊢
                obtain ⟨fr, h, o, out', rfl, hl, h0, h4, h5, hg, hw'⟩ := hx
                refine Ev.seq (Ev.region ?_)
                apply EvOps.run
                · intro call; simp [hl, h0, h5, wrap_succ i (by omega), sliceA, show (i : Int) + 1 ≤ s.length by omega]; exact rfl
                refine Ev.exit ?_
                refine ⟨s.length - (i + 1), by omega, _, h, o, out', s.drop (i + 1), rfl, by simp [hl], by simp [hl], by simp [h4], hg, hw', by rw [List.length_drop]; omega, by rw [List.length_drop]⟩
              · have hb2 : ¬ ((s[i].toNat : Int) = 32) := fun e => hb (UInt8.toNat_inj.1 (by
                  have : s[i].toNat = 32 := by omega
                  rw [this]; rfl))
                apply EvOps.run
                · intro call; simp [hl, h0, h10, hgi, hb2]; exact rfl
                refine Ev.cond true (by simp [hl]; exact hb2) (fun _ => Ev.exit ?_) (fun h => by simp at h)
                refine Ev.region ?_
                apply EvOps.run
                · intro call; simp [hl, h10, wrap_succ i (by omega)]; exact rfl
                refine ⟨s.length - (i + 1), by omega, _, i + 1, rfl, by simp [hl], by simp [h0], by simp [h4], by simp [h9], by simp [hl], by omega, fun b hb' => ?_, rfl⟩
                rw [List.take_add_one, hgi, List.mem_append] at hb'
                rcases hb' with hb' | hb'
                · exact hfree b hb'
                · simp at hb'; subst hb'; exact hb
            · simp only [decide_eq_false_iff_not] at hc
              exact ⟨_, rfl, by simp [hl], by simp [h0], by simp [h4], by rwa [List.take_of_length_le (by omega)] at hfree⟩
          · exact ⟨_, 0, rfl, by simp [hl], by simp [h0], by simp [h4], by simp [hl], by simp [hl], by omega, by simp, rfl⟩
        clear hl h0 h4 fr
        rintro st ⟨fr, rfl, hl, h0, h4, hfree⟩
        have hlast := wordsL_last s hfree
        rw [if_neg hsne] at hlast
        refine Ev.seq (Ev.region (EvOps.take 3 ?_))
        apply EvOps.run
        · intro call; simp [hl, h0, h4, buildSliceA]; exact rfl
        refine EvOps.append (x := o) (y := .list [.str s] true (some 1) none) rfl rfl (by simp) (by simp [hl]) Try.underlying24 Try.underlying24 rfl Ty.s9 Ty.b9 Ty.z9 rfl hg (headOk_strs _) (ys := [.str s]) (by simp [elemsA]) (by simp; omega) ?_
        intro o' h' hg' _
        apply EvOps.run
        · intro call; simp [hl]; exact rfl
        refine Ev.exit ?_
        exact ⟨_, h', o', rfl, by simp [hl], by simp [hl], by rw [← hw, hlast, List.map_append]; exact hg'⟩
      · have hs0 : s = [] := by simpa using hne
        subst hs0
        refine ⟨_, h, o, rfl, by simp [hl], by simp [h4], ?_⟩
        have : wordsL [] = [] := rfl
        rw [this, List.append_nil] at hw
        rw [← hw]; exact hg
    · exact ⟨_, [], .nils, [], s0, rfl, by simp [hl], by simp [h0], by simp [hl], Grow.nils _ _, rfl, by omega, rfl⟩
  clear hl h0 fr
  rintro st ⟨fr, h, o, rfl, hl, h4, hg⟩
  have hlen : lenA Try.prog 24 o = some (.int .i64 ((wordsL s0).length : Nat)) := by
    rcases hg with ⟨rfl, e⟩ | ⟨τ, rfl, _⟩ | ⟨nn, rfl⟩
    · have : wordsL s0 = [] := by simpa using e
      simp [this]
    · simp
    · simp
  have hst : o.strip = strs (wordsL s0) := by rw [hg.strip, stripL_strs]; rfl
  by_cases h128 : 128 < (wordsL s0).length
  · rw [if_pos h128]
    refine Ev.seq (Ev.seq (Ev.region ?_))
    apply EvOps.run
    · intro call; simp [-lenA, hl, h4, hlen, show (128 : Int) < (wordsL s0).length by omega]; exact rfl
    refine Ev.cond true (by simp [hl]) (fun _ => ?_) (fun h => by simp at h)
    refine Ev.seq (Ev.region ?_)
    apply EvOps.run
    · intro call; simp [hl]; exact rfl
    exact Ev.ret ⟨_, by simp [Try.f87, hl]; exact rfl, by simp [strs]⟩
  · rw [if_neg h128]
    refine Ev.seq (Ev.seq (Ev.region ?_))
    apply EvOps.run
    · intro call; simp [-lenA, hl, h4, hlen, show ¬ (128 : Int) < (wordsL s0).length by omega]; exact rfl
    refine Ev.cond false (by simp [hl]) (fun h => by simp at h) (fun _ => Ev.skip ?_)
    refine Ev.seq (Ev.region ?_)
    apply EvOps.run
    · intro call; simp [hl, h4]; exact rfl
    exact Ev.ret ⟨_, by simp [Try.f87, hl]; exact rfl, by simp [hst]⟩
end Go.Proofs.Ytnifldbmflkmpaa

/-
  A command in a line, whole; the words of RequestInline's line.
-/
namespace Go.Proofs.Ytnifldbmflkmpaa
open Go Ev
set_option linter.unusedVariables false
set_option linter.unusedSimpArgs false
set_option maxRecDepth 10000
theorem byte_ne {a b : UInt8} (h : a ≠ b) : ¬ ((a.toNat : Int) = (b.toNat : Int)) := fun e => h (UInt8.toNat_inj.1 (by omega))
theorem cmd_line (c : UInt8) (l : S) (hc : c ≠ 42) (h10 : ∀ b ∈ c :: l, b ≠ 10) (hlen : (c :: l).length + 2 ≤ 1026) (h128 : (wordsL (c :: l)).length ≤ 128) :
    Ret cfg 75 [.str ((c :: l) ++ [13, 10])] (.tuple [strs (wordsL (c :: l)), .int .i64 (((c :: l) ++ [13, 10]).length : Nat), .int .i64 0]) := by
  have hln := line_ok (c :: l) [] h10 hlen (by simp)
  have hw := words_cut (c :: l) (by omega)
  rw [if_neg (by omega)] at hw
  have hc2 : ¬ ((c.toNat : Int) = 42) := byte_ne hc
  obtain ⟨s, hs⟩ : ∃ s, s = (c :: l) ++ [13, 10] := ⟨_, rfl⟩
  have hsl : s.length = (c :: l).length + 2 := by rw [hs]; simp
  rw [← hs, ← hsl] at hln
  rw [← hs]
  have hn0 : ¬ ((s.length : Int) = 0) := by simp only [List.length_cons] at hsl; omega
  have hs0 : s ≠ [] := by rw [hs]; simp
  clear hs
  refine Ret.of_body rfl rfl Try.func75 rfl (by simp) (by simp) ?_
  refine Ev.seq (Ev.region ?_)
  apply EvOps.run
  · intro call; simp [Try.f75]; exact rfl
  refine Ev.seq (Ev.region (EvOps.take 1 ?_))
  apply EvOps.run
  · intro call; simp; exact rfl
  refine EvOps.call rfl (by simp) (by simp <;> exact rfl) (by simp <;> exact rfl) hln ?_
  apply EvOps.keep (h' := []) (d' := false) (fun fr => fr.length = 79 ∧ slotAt fr 5 = some (.str (c :: l)) ∧ slotAt fr 6 = some (.int .i64 (s.length : Nat)) ∧ slotAt fr 7 = some (.int .i64 0))
  · intro call; simp; exact rfl
  · exact ⟨by simp, by simp, by simp, by simp⟩
  rintro fr ⟨hl, h5, h6, h7⟩
  refine Ev.seq (Ev.seq (Ev.region ?_))
  apply EvOps.run
  · intro call; simp [hl, h6, h7, hn0, hs0]; exact rfl
  refine Ev.cond false (by simp [hl]; exact hs0) (fun h => by simp at h) (fun _ => Ev.skip ?_)
  refine Ev.seq (Ev.seq (Ev.region ?_))
  apply EvOps.run
  · intro call; simp [hl, h5, hc2]; exact rfl
  refine Ev.cond true (by simp [hl]; exact hc2) (fun _ => ?_) (fun h => by simp at h)
  refine Ev.seq (Ev.region (EvOps.take 1 ?_))
  apply EvOps.run
  · intro call; simp [hl, h5]; exact rfl
  refine EvOps.call rfl (by simp) (by simp [hl] <;> exact rfl) (by simp <;> exact rfl) hw ?_
  apply EvOps.run
  · intro call; simp [hl]; exact rfl
  refine Ev.seq (Ev.region ?_)
  apply EvOps.run
  · intro call; simp [hl, h6]; exact rfl
  exact Ev.ret ⟨_, by simp [Try.f75, hl]; exact rfl, by simp⟩
/-- How many spaces are ahead of a word. -/
def pad (gaps : S) (i : Nat) : Nat := 1 + (match gaps[i]? with | some g => g.toNat % 3 | none => 0)
def lineUp (ws : List S) (gaps : S) : Nat → S
  | 0 => []
  | i + 1 => lineUp ws gaps i ++ (List.replicate (if 0 < i then pad gaps i else 0) 32 ++ (ws[i]?).getD [])
def okW (w : S) : Prop := w ≠ [] ∧ w.length ≤ 20 ∧ ∀ b ∈ w, b ≠ 32 ∧ b ≠ 10 ∧ b ≠ 13
theorem wordsL_pad (r : S) : ∀ m, wordsL (List.replicate m 32 ++ r) = wordsL r
  | 0 => rfl
  | m + 1 => by
    have := wordsL_space [] (List.replicate m 32 ++ r) (by simp)
    simp only [List.nil_append, if_true] at this
    rw [List.replicate_succ, List.cons_append, this, wordsL_pad r m]
theorem wordsL_word (w r : S) (h : okW w) : wordsL (w ++ 32 :: r) = w :: wordsL r := by
  rw [wordsL_space w r fun b hb => (h.2.2 b hb).1, if_neg h.1]; rfl
theorem lineUp_words (ws : List S) (gaps : S) (hok : ∀ w ∈ ws, okW w) : ∀ i, 1 ≤ i → i ≤ ws.length → ∀ r, wordsL (lineUp ws gaps i ++ 32 :: r) = ws.take i ++ wordsL r
  | 0, h, _, _ => by omega
  | i + 1, _, hi, r => by
    have hw := hok ws[i] (List.getElem_mem (by omega))
    have e : lineUp ws gaps (i + 1) = lineUp ws gaps i ++ (List.replicate (if 0 < i then pad gaps i else 0) 32 ++ ws[i]) := by
      rw [lineUp, List.getElem?_eq_getElem (by omega), Option.getD_some]
    rw [e, List.take_add_one, List.getElem?_eq_getElem (by omega)]
    by_cases h0 : 0 < i
    · have hp : pad gaps i = (pad gaps i - 1) + 1 := by unfold pad; omega
      rw [if_pos h0, hp, List.replicate_succ]
      have := lineUp_words ws gaps hok i (by omega) (by omega) (List.replicate (pad gaps i - 1) 32 ++ (ws[i] ++ 32 :: r))
      simp only [List.append_assoc, List.cons_append, List.nil_append] at this ⊢
      rw [this, wordsL_pad, wordsL_word _ _ hw]
      rfl
    · have : i = 0 := by omega
      subst this
      simp only [lineUp, Nat.lt_irrefl, if_false, List.replicate_zero, List.nil_append]
      rw [wordsL_word _ _ hw]
      rfl
theorem lineUp_mem (ws : List S) (gaps : S) (hok : ∀ w ∈ ws, okW w) : ∀ i, ∀ b ∈ lineUp ws gaps i, b ≠ 10
  | 0, b, h => by simp [lineUp] at h
  | i + 1, b, h => by
    rw [lineUp, List.mem_append, List.mem_append] at h
    rcases h with h | h | h
    · exact lineUp_mem ws gaps hok i b h
    · rw [List.mem_replicate] at h; rw [h.2]; decide
    · by_cases hi : i < ws.length
      · rw [List.getElem?_eq_getElem hi, Option.getD_some] at h
        exact ((hok _ (List.getElem_mem hi)).2.2 b h).2.1
      · rw [List.getElem?_eq_none (by omega)] at h; simp at h
theorem pad_le (gaps : S) (i : Nat) : pad gaps i ≤ 3 := by
  unfold pad
  cases gaps[i]? with
  | none => simp
  | some g => simp only; omega
theorem lineUp_len (ws : List S) (gaps : S) (hok : ∀ w ∈ ws, okW w) : ∀ i, (lineUp ws gaps i).length ≤ 23 * i
  | 0 => by simp [lineUp]
  | i + 1 => by
    have ih := lineUp_len ws gaps hok i
    have hp := pad_le gaps i
    have hw : ((ws[i]?).getD []).length ≤ 20 := by
      by_cases hi : i < ws.length
      · rw [List.getElem?_eq_getElem hi, Option.getD_some]; exact (hok _ (List.getElem_mem hi)).2.1
      · rw [List.getElem?_eq_none (by omega)]; simp
    simp only [lineUp, List.length_append, List.length_replicate]
    split <;> omega
theorem lineUp_head (ws : List S) (gaps : S) (c : UInt8) (w : S) (h : ws[0]? = some (c :: w)) : ∀ i, 1 ≤ i → ∃ r, lineUp ws gaps i = c :: r
  | 0, h0 => by omega
  | 1, _ => ⟨w, by simp [lineUp, h]⟩
  | i + 2, _ => by
    obtain ⟨r, hr⟩ := lineUp_head ws gaps c w h (i + 1) (by omega)
    exact ⟨_, by rw [lineUp, hr]; rfl⟩
/-- The line is the command that the words are. -/
theorem line_cmd (ws : List S) (gaps : S) (hok : ∀ w ∈ ws, okW w) (h1 : 1 ≤ ws.length) (h40 : ws.length ≤ 40) (hc : ∀ c w, ws[0]? = some (c :: w) → c ≠ 42) :
    Ret cfg 75 [.str (lineUp ws gaps ws.length ++ [32, 13, 10])] (.tuple [strs ws, .int .i64 ((lineUp ws gaps ws.length ++ [32, 13, 10]).length : Nat), .int .i64 0]) := by
  obtain ⟨w0, hw0⟩ : ∃ w0, ws[0]? = some w0 := ⟨ws[0], List.getElem?_eq_getElem (by omega)⟩
  obtain ⟨hne, _, _⟩ := hok w0 (List.mem_of_getElem? hw0)
  obtain ⟨c, w, rfl⟩ := List.exists_cons_of_ne_nil hne
  obtain ⟨r, hr⟩ := lineUp_head ws gaps c w hw0 ws.length h1
  have hwords := lineUp_words ws gaps hok ws.length h1 (Nat.le_refl _) []
  rw [List.take_length, show wordsL [] = [] from rfl, List.append_nil] at hwords
  have hlen := lineUp_len ws gaps hok ws.length
  have hmem := lineUp_mem ws gaps hok ws.length
  rw [hr] at hwords hlen hmem ⊢
  have hcons : (c :: r) ++ [32] = c :: (r ++ [32]) := rfl
  rw [hcons] at hwords
  have := cmd_line c (r ++ [32]) (hc c w hw0) (fun b hb => by
    rw [← hcons, List.mem_append] at hb
    rcases hb with hb | hb
    · exact hmem b hb
    · simp at hb; subst hb; decide) (by simp at hlen ⊢; omega) (by rw [hwords]; omega)
  rw [hwords] at this
  simpa using this
end Go.Proofs.Ytnifldbmflkmpaa

/-
  RequestInline's run.
-/
namespace Go.Proofs.Ytnifldbmflkmpaa
open Go Ev
set_option linter.unusedVariables false
set_option linter.unusedSimpArgs false
set_option maxRecDepth 10000
theorem ofBytes_get (s : S) (i : Nat) (h : i < s.length) : (ofBytes s)[i]? = some (.int .u8 (s[i].toNat : Int)) := by
  simp [ofBytes, List.getElem?_eq_getElem h]
theorem lineUp_succ (ws : List S) (gaps : S) (i : Nat) (h : i < ws.length) : lineUp ws gaps (i + 1) = lineUp ws gaps i ++ List.replicate (if 0 < i then pad gaps i else 0) 32 ++ ws[i] := by
  rw [lineUp, List.getElem?_eq_getElem h, Option.getD_some, List.append_assoc]
set_option maxHeartbeats 8000000 in
theorem requestInline_ev (ws : List S) (gaps : S) : ∃ k h d, evalF cfg k 11 [strs ws, .L (ofBytes gaps)] [] = some (.bool true, h, d) := by
  refine law_of_body (by decide) Try.func11 rfl ?_
  have aw := awake5_ok
  refine Ev.seq (Ev.region ?_)
  apply EvOps.keep (h' := []) (d' := false) (fun fr => fr.length = 145 ∧ slotAt fr 0 = some (strs ws) ∧ slotAt fr 1 = some (.L (ofBytes gaps)))
  · intro call; simp [Try.f11]; exact rfl
  · exact ⟨by simp, by simp, by simp⟩
  rintro fr ⟨hl, h0, h1⟩
  -- the guards
  refine Ev.mid (fun st => ∃ fr, st = ⟨fr, [], false⟩ ∧ fr.length = 145 ∧ slotAt fr 0 = some (strs ws) ∧ slotAt fr 1 = some (.L (ofBytes gaps)) ∧ 1 ≤ ws.length ∧ ws.length ≤ 40 ∧ gaps.length ≤ 50) ?_ ?_
  · refine Ev.seq (Ev.region (EvOps.mono (Q := fun st => ∃ fr b, st = ⟨fr, [], false⟩ ∧ fr.length = 145 ∧ slotAt fr 0 = some (strs ws) ∧ slotAt fr 1 = some (.L (ofBytes gaps)) ∧ slotAt fr 33 = some (.bool b) ∧ (b = false → 1 ≤ ws.length ∧ ws.length ≤ 40 ∧ gaps.length ≤ 50)) ?_ ?_))
    · refine EvOps.call rfl (by simp) (by simp <;> exact rfl) (by simp <;> exact rfl) aw ?_
      by_cases g0 : ws.length = 0
      · have : ws = [] := List.eq_nil_of_length_eq_zero g0
        apply EvOps.run
        · intro call; simp [hl, h0, strs, this]; exact rfl
        exact ⟨_, true, rfl, by simp [hl], by simp [h0, strs], by simp [h1], by simp [hl], by simp⟩
      have g0' : ((ws.length : Int) == 0) = false := by rw [beq_eq_false_iff_ne]; omega
      have hne : ¬ ws = [] := by intro e; subst e; simp at g0
      by_cases g40 : 40 < ws.length
      · apply EvOps.run
        · intro call; simp [hl, h0, strs, g0', hne, show (40 : Int) < ws.length by omega]; exact rfl
        exact ⟨_, true, rfl, by simp [hl], by simp [h0, strs], by simp [h1], by simp [hl], by simp⟩
      by_cases g50 : 50 < gaps.length
      · apply EvOps.run
        · intro call; simp [hl, h0, h1, strs, g0', hne, ofBytes_length, show ¬ (40 : Int) < ws.length by omega, show (50 : Int) < gaps.length by omega]; exact rfl
        exact ⟨_, true, rfl, by simp [hl], by simp [h0, strs], by simp [h1], by simp [hl], by simp⟩
      apply EvOps.run
      · intro call; simp [hl, h0, h1, strs, g0', hne, ofBytes_length, show ¬ (40 : Int) < ws.length by omega, show ¬ (50 : Int) < gaps.length by omega]; exact rfl
      exact ⟨_, false, rfl, by simp [hl], by simp [h0, strs], by simp [h1], by simp [hl], fun _ => ⟨by omega, by omega, by omega⟩⟩
    rintro st ⟨fr, b, rfl, hl, h0, h1, h33, hb⟩
    refine Ev.cond b (by simp [h33]) (fun _ => ?_) (fun h => Ev.skip ⟨fr, rfl, hl, h0, h1, hb h⟩)
    refine Ev.seq (Ev.region ?_)
    refine EvOps.call rfl (by simp) (by simp <;> exact rfl) (by simp <;> exact rfl) aw ?_
    apply EvOps.run
    · intro call; simp [hl]; exact rfl
    exact Ev.ret ⟨by simp, by simp [Try.f11, hl]⟩
  clear hl h0 h1 fr
  rintro st ⟨fr, rfl, hl, h0, h1, hw1, hw40, hg50⟩
  refine Ev.seq (Ev.region ?_)
  apply EvOps.run
  · intro call; simp; exact rfl
  -- the line
  refine Ev.mid (fun st => ∃ fr, st = ⟨fr, [], false⟩ ∧ fr.length = 145 ∧ slotAt fr 0 = some (strs ws) ∧ slotAt fr 5 = some (.str (lineUp ws gaps ws.length)) ∧ (∀ w ∈ ws, okW w) ∧ (∀ c w, ws[0]? = some (c :: w) → c ≠ 42)) ?_ ?_
  · refine Ev.seq (Ev.region ?_)
    apply EvOps.run
    · intro call; simp; exact rfl
    refine Ev.block ?_
    refine Ev.loop (fun m st => ∃ (fr : List AV) (i : Nat), st = ⟨fr, [], false⟩ ∧ fr.length = 145 ∧ slotAt fr 0 = some (strs ws) ∧ slotAt fr 1 = some (.L (ofBytes gaps)) ∧ slotAt fr 5 = some (.str (lineUp ws gaps i)) ∧ slotAt fr 6 = some (.int .i64 (i : Nat)) ∧ i ≤ ws.length ∧ (lineUp ws gaps i).length ≤ 23 * i ∧ (∀ t (ht : t < ws.length), t < i → okW ws[t]) ∧ (0 < i → ∀ c w, ws[0]? = some (c :: w) → c ≠ 42) ∧ m = ws.length - i) ?_ ws.length _ ?_
    · clear hl h0 h1 fr
      rintro m st ⟨fr, i, rfl, hl, h0, h1, h5, h6, hi, hll, hok, hstar, rfl⟩
      refine Ev.seq (Ev.seq (Ev.region ?_))
      apply EvOps.run
      · intro call; simp [hl, h0, h6, strs]; exact rfl
      refine Ev.cond (decide (i < ws.length)) (by simp [hl]) (fun hc => Ev.skip ?_) (fun hc => Ev.exit ?_)
      · simp only [decide_eq_true_eq] at hc
        obtain ⟨w, hw⟩ : ∃ w, w = ws[i] := ⟨_, rfl⟩
        refine Ev.seq (Ev.block (Ev.seq (Ev.region ?_)))
        apply EvOps.keep (h' := []) (d' := false) (fun fr => fr.length = 145 ∧ slotAt fr 0 = some (strs ws) ∧ slotAt fr 1 = some (.L (ofBytes gaps)) ∧ slotAt fr 5 = some (.str (lineUp ws gaps i)) ∧ slotAt fr 6 = some (.int .i64 (i : Nat)) ∧ slotAt fr 7 = some (.str w))
        · intro call; simp [hl, h0, h6, strs, hc, ← hw]; exact rfl
        · exact ⟨by simp [hl], by simp [h0, strs], by simp [h1], by simp [h5], by simp [h6], by simp [hl]⟩
        clear hl h0 h1 h5 h6 fr
        rintro fr ⟨hl, h0, h1, h5, h6, h7⟩
        -- is the word fit?
        refine Ev.mid (fun st => ∃ fr, st = ⟨fr, [], false⟩ ∧ fr.length = 145 ∧ slotAt fr 0 = some (strs ws) ∧ slotAt fr 1 = some (.L (ofBytes gaps)) ∧ slotAt fr 5 = some (.str (lineUp ws gaps i)) ∧ slotAt fr 6 = some (.int .i64 (i : Nat)) ∧ slotAt fr 7 = some (.str w) ∧ w ≠ [] ∧ w.length ≤ 20 ∧ (i = 0 → ∀ c r, w = c :: r → c ≠ 42)) ?_ ?_
        · have bad : ∀ (Q : Ex → St → Prop) (fr : List AV), fr.length = 145 → slotAt fr 61 = some (.bool true) → (∀ st, resultsA cfg.P Try.f11.results.toList st.fr st.h = some (.bool true) → Q .ret st) → Ev cfg 0 (.cond (.tmp 61) ((Code.region 9 #[{ dst := some 4, op := .assign (.const (.bool true)), type := 4, pos := "law.go:135", after := #[], guard := none }] false).seq .ret) .skip) ⟨fr, [], false⟩ Q := by
            intro Q fr hl h61 hQ
            refine Ev.cond true (by simp [h61]) (fun _ => ?_) (fun h => by simp at h)
            refine Ev.seq (Ev.region ?_)
            apply EvOps.run
            · intro call; simp [hl]; exact rfl
            exact Ev.ret (hQ _ (by simp [Try.f11, hl]))
          refine Ev.seq (Ev.region ?_)
          cases w with
          | nil =>
            apply EvOps.keep (h' := []) (d' := false) (fun fr => fr.length = 145 ∧ slotAt fr 61 = some (.bool true))
            · intro call; simp [hl, h6, h7]; exact rfl
            · exact ⟨by simp [hl], by simp [hl]⟩
            rintro fr ⟨hl, h61⟩
            exact bad _ fr hl h61 fun st h => ⟨by simp, h⟩
          | cons c r =>
            by_cases g20 : 20 < (c :: r).length
            · apply EvOps.keep (h' := []) (d' := false) (fun fr => fr.length = 145 ∧ slotAt fr 61 = some (.bool true))
              · intro call; simp [hl, h6, h7, show (20 : Int) < (r.length : Int) + 1 by simp at g20; omega]; exact rfl
              · exact ⟨by simp [hl], by simp [hl]⟩
              rintro fr ⟨hl, h61⟩
              exact bad _ fr hl h61 fun st h => ⟨by simp, h⟩
            have g20' : ¬ (20 : Int) < (r.length : Int) + 1 := by simp at g20; omega
            by_cases hi0 : i = 0
            · subst hi0
              by_cases h42 : c = 42
              · subst h42
                apply EvOps.keep (h' := []) (d' := false) (fun fr => fr.length = 145 ∧ slotAt fr 61 = some (.bool true))
                · intro call; simp [hl, h6, h7, g20']; exact rfl
                · exact ⟨by simp [hl], by simp [hl]⟩
                rintro fr ⟨hl, h61⟩
                exact bad _ fr hl h61 fun st h => ⟨by simp, h⟩
              · have hc2 : ¬ ((c.toNat : Int) = 42) := byte_ne h42
                apply EvOps.keep (h' := []) (d' := false) (fun fr => fr.length = 145 ∧ slotAt fr 0 = some (strs ws) ∧ slotAt fr 1 = some (.L (ofBytes gaps)) ∧ slotAt fr 5 = some (.str (lineUp ws gaps 0)) ∧ slotAt fr 6 = some (.int .i64 (0 : Nat)) ∧ slotAt fr 7 = some (.str (c :: r)) ∧ slotAt fr 61 = some (.bool false))
                · intro call; simp [hl, h6, h7, g20', hc2]; exact rfl
                · exact ⟨by simp [hl], by simp [h0], by simp [h1], by simp [h5], by simp [h6], by simp [h7], by simp [hl]; exact hc2⟩
                rintro fr ⟨hl, h0, h1, h5, h6, h7, h61⟩
                exact Ev.cond false (by simp [h61]) (fun h => by simp at h) (fun _ => Ev.skip ⟨fr, rfl, hl, h0, h1, h5, h6, h7, by simp, by omega, fun _ c' r' e' => by cases e'; exact h42⟩)
            · have hi0' : ((i : Int) == 0) = false := by rw [beq_eq_false_iff_ne]; omega
              apply EvOps.keep (h' := []) (d' := false) (fun fr => fr.length = 145 ∧ slotAt fr 0 = some (strs ws) ∧ slotAt fr 1 = some (.L (ofBytes gaps)) ∧ slotAt fr 5 = some (.str (lineUp ws gaps i)) ∧ slotAt fr 6 = some (.int .i64 (i : Nat)) ∧ slotAt fr 7 = some (.str (c :: r)) ∧ slotAt fr 61 = some (.bool false))
              · intro call; simp [hl, h6, h7, g20', hi0', hi0]; exact rfl
              · exact ⟨by simp [hl], by simp [h0], by simp [h1], by simp [h5], by simp [h6], by simp [h7], by simp [hl]⟩
              rintro fr ⟨hl, h0, h1, h5, h6, h7, h61⟩
              exact Ev.cond false (by simp [h61]) (fun h => by simp at h) (fun _ => Ev.skip ⟨fr, rfl, hl, h0, h1, h5, h6, h7, by simp, by omega, fun e => (hi0 e).elim⟩)
        clear hl h0 h1 h5 h6 h7 fr
        rintro st ⟨fr, rfl, hl, h0, h1, h5, h6, h7, hwne, hw20, hwst⟩
        -- its signs
        refine Ev.mid (fun st => ∃ fr, st = ⟨fr, [], false⟩ ∧ fr.length = 145 ∧ slotAt fr 0 = some (strs ws) ∧ slotAt fr 1 = some (.L (ofBytes gaps)) ∧ slotAt fr 5 = some (.str (lineUp ws gaps i)) ∧ slotAt fr 6 = some (.int .i64 (i : Nat)) ∧ slotAt fr 7 = some (.str w) ∧ ∀ t (ht : t < w.length), w[t] ≠ 32 ∧ w[t] ≠ 10 ∧ w[t] ≠ 13) ?_ ?_
        · refine Ev.seq (Ev.region ?_)
          apply EvOps.run
          · intro call; simp; exact rfl
          refine Ev.block ?_
          refine Ev.loop (fun m st => ∃ (fr : List AV) (k : Nat), st = ⟨fr, [], false⟩ ∧ fr.length = 145 ∧ slotAt fr 0 = some (strs ws) ∧ slotAt fr 1 = some (.L (ofBytes gaps)) ∧ slotAt fr 5 = some (.str (lineUp ws gaps i)) ∧ slotAt fr 6 = some (.int .i64 (i : Nat)) ∧ slotAt fr 7 = some (.str w) ∧ slotAt fr 8 = some (.int .i64 (k : Nat)) ∧ k ≤ w.length ∧ (∀ t (ht : t < w.length), t < k → w[t] ≠ 32 ∧ w[t] ≠ 10 ∧ w[t] ≠ 13) ∧ m = w.length - k) ?_ w.length _ ?_
          · clear hl h0 h1 h5 h6 h7 fr
            rintro m st ⟨fr, k, rfl, hl, h0, h1, h5, h6, h7, h8, hk, hfree, rfl⟩
            refine Ev.seq (Ev.seq (Ev.region ?_))
            apply EvOps.run
            · intro call; simp [hl, h7, h8]; exact rfl
            refine Ev.cond (decide (k < w.length)) (by simp [hl]) (fun hk1 => Ev.skip ?_) (fun hk1 => Ev.exit ?_)
            · simp only [decide_eq_true_eq] at hk1
              have hgk : w[k]? = some w[k] := List.getElem?_eq_getElem hk1
              generalize hb : w[k] = b at hgk
              refine Ev.seq (Ev.block (Ev.seq (Ev.region ?_)))
              by_cases hbad : b = 32 ∨ b = 10 ∨ b = 13
              · refine EvOps.mono (Q := fun st => ∃ fr, st = ⟨fr, [], false⟩ ∧ fr.length = 145 ∧ slotAt fr 83 = some (.bool true)) ?_ ?_
                · rcases hbad with rfl | rfl | rfl
                  · apply EvOps.run
                    · intro call; simp [hl, h7, h8, hgk]; exact rfl
                    exact ⟨_, rfl, by simp [hl], by simp [hl]⟩
                  · apply EvOps.run
                    · intro call; simp [hl, h7, h8, hgk]; exact rfl
                    exact ⟨_, rfl, by simp [hl], by simp [hl]⟩
                  · apply EvOps.run
                    · intro call; simp [hl, h7, h8, hgk]; exact rfl
                    exact ⟨_, rfl, by simp [hl], by simp [hl]⟩
                rintro st ⟨fr, rfl, hl, h83⟩
                refine Ev.cond true (by simp [h83]) (fun _ => ?_) (fun h => by simp at h)
                refine Ev.seq (Ev.region ?_)
                apply EvOps.run
                · intro call; simp [hl]; exact rfl
                exact Ev.ret ⟨by simp, by simp [Try.f11, hl]⟩
              · simp only [not_or] at hbad
                obtain ⟨b1, b2, b3⟩ := hbad
                have c1 : ((b.toNat : Int) == 32) = false := beq_eq_false_iff_ne.2 (byte_ne b1)
                have c2 : ((b.toNat : Int) == 10) = false := beq_eq_false_iff_ne.2 (byte_ne b2)
                have c3 : ((b.toNat : Int) == 13) = false := beq_eq_false_iff_ne.2 (byte_ne b3)
                apply EvOps.keep (h' := []) (d' := false) (fun fr => fr.length = 145 ∧ slotAt fr 0 = some (strs ws) ∧ slotAt fr 1 = some (.L (ofBytes gaps)) ∧ slotAt fr 5 = some (.str (lineUp ws gaps i)) ∧ slotAt fr 6 = some (.int .i64 (i : Nat)) ∧ slotAt fr 7 = some (.str w) ∧ slotAt fr 8 = some (.int .i64 (k : Nat)) ∧ slotAt fr 83 = some (.bool false))
                · intro call; simp [hl, h7, h8, hgk, c1, c2, c3]; exact rfl
                · exact ⟨by simp [hl], by simp [h0], by simp [h1], by simp [h5], by simp [h6], by simp [h7], by simp [h8], by simp [hl]⟩
                clear hl h0 h1 h5 h6 h7 h8 fr
                rintro fr ⟨hl, h0, h1, h5, h6, h7, h8, h83⟩
                refine Ev.cond false (by simp [h83]) (fun h => by simp at h) (fun _ => Ev.skip ?_)
                refine Ev.region ?_
                apply EvOps.run
                · intro call; simp [hl, h8, wrap_succ k (by omega)]; exact rfl
                refine ⟨w.length - (k + 1), by omega, _, k + 1, rfl, by simp [hl], by simp [h0], by simp [h1], by simp [h5], by simp [h6], by simp [h7], by simp [hl], by omega, fun t ht h => ?_, rfl⟩
                by_cases e : t = k
                · subst e; rw [hb]; exact ⟨b1, b2, b3⟩
                · exact hfree t ht (by omega)
            · simp only [decide_eq_false_iff_not] at hk1
              exact ⟨_, rfl, by simp [hl], by simp [h0], by simp [h1], by simp [h5], by simp [h6], by simp [h7], fun t ht => hfree t ht (by omega)⟩
          · exact ⟨_, 0, rfl, by simp [hl], by simp [h0], by simp [h1], by simp [h5], by simp [h6], by simp [h7], by simp [hl], by omega, fun t _ h => by omega, rfl⟩
        clear hl h0 h1 h5 h6 h7 fr
        rintro st ⟨fr, rfl, hl, h0, h1, h5, h6, h7, hfree⟩
        have hwok : okW w := ⟨hwne, hw20, fun b hb => by
          obtain ⟨t, ht, rfl⟩ := List.getElem_of_mem hb
          exact hfree t ht⟩
        -- how many spaces
        obtain ⟨n, hn⟩ : ∃ n, n = pad gaps i := ⟨_, rfl⟩
        have hn3 := pad_le gaps i
        rw [← hn] at hn3
        refine Ev.seq (Ev.region ?_)
        apply EvOps.run
        · intro call; simp; exact rfl
        refine Ev.mid (fun st => ∃ fr, st = ⟨fr, [], false⟩ ∧ fr.length = 145 ∧ slotAt fr 0 = some (strs ws) ∧ slotAt fr 1 = some (.L (ofBytes gaps)) ∧ slotAt fr 5 = some (.str (lineUp ws gaps i)) ∧ slotAt fr 6 = some (.int .i64 (i : Nat)) ∧ slotAt fr 7 = some (.str w) ∧ slotAt fr 9 = some (.int .i64 (n : Nat))) ?_ ?_
        · refine Ev.seq (Ev.region ?_)
          apply EvOps.run
          · intro call; simp [hl, h1, h6, ofBytes_length]; exact rfl
          refine Ev.cond (decide (i < gaps.length)) (by simp [hl]) (fun hgc => ?_) (fun hgc => Ev.skip ?_)
          · simp only [decide_eq_true_eq] at hgc
            have hgg : ∀ h, (ofBytes gaps)[i]'h = .int .u8 (gaps[i].toNat : Int) := fun h => by simp [ofBytes]
            have hnn : n = 1 + gaps[i].toNat % 3 := by rw [hn]; unfold pad; rw [List.getElem?_eq_getElem hgc]
            have hb256 := UInt8.toNat_lt gaps[i]
            generalize gaps[i] = g at hgg hnn hb256
            have hw1 : IntKind.wrap .i64 (g.toNat : Int) = (g.toNat : Int) := wrap_nat _ (by omega)
            have hw2 : IntKind.wrap .i64 (1 + (g.toNat : Int) % 3) = (n : Int) := by
              rw [hnn, wrap_int _ (by omega) (by omega)]; omega
            have hm3 : (g.toNat : Int).tmod 3 = (g.toNat : Int) % 3 := by rw [Int.tmod_eq_emod_of_nonneg (by omega)]
            refine Ev.region ?_
            apply EvOps.run
            · intro call; simp [hl, h1, h6, ofBytes_length, hgc, hgg, hw1, hm3, hw2]; exact rfl
            exact ⟨_, rfl, by simp [hl], by simp [h0], by simp [h1], by simp [h5], by simp [h6], by simp [h7], by simp [hl]⟩
          · simp only [decide_eq_false_iff_not] at hgc
            have hnn : n = 1 := by rw [hn]; unfold pad; rw [List.getElem?_eq_none (by omega)]; rfl
            exact ⟨_, rfl, by simp [hl], by simp [h0], by simp [h1], by simp [h5], by simp [h6], by simp [h7], by simp [hl, hnn]⟩
        clear hl h0 h1 h5 h6 h7 fr
        rintro st ⟨fr, rfl, hl, h0, h1, h5, h6, h7, h9⟩
        -- they are laid
        refine Ev.mid (fun st => ∃ fr, st = ⟨fr, [], false⟩ ∧ fr.length = 145 ∧ slotAt fr 0 = some (strs ws) ∧ slotAt fr 1 = some (.L (ofBytes gaps)) ∧ slotAt fr 5 = some (.str (lineUp ws gaps i ++ List.replicate (if 0 < i then n else 0) 32)) ∧ slotAt fr 6 = some (.int .i64 (i : Nat)) ∧ slotAt fr 7 = some (.str w)) ?_ ?_
        · refine Ev.seq (Ev.region ?_)
          apply EvOps.run
          · intro call; simp; exact rfl
          refine Ev.block ?_
          refine Ev.loop (fun m st => ∃ (fr : List AV) (k : Nat), st = ⟨fr, [], false⟩ ∧ fr.length = 145 ∧ slotAt fr 0 = some (strs ws) ∧ slotAt fr 1 = some (.L (ofBytes gaps)) ∧ slotAt fr 5 = some (.str (lineUp ws gaps i ++ List.replicate k 32)) ∧ slotAt fr 6 = some (.int .i64 (i : Nat)) ∧ slotAt fr 7 = some (.str w) ∧ slotAt fr 9 = some (.int .i64 (n : Nat)) ∧ slotAt fr 10 = some (.int .i64 (k : Nat)) ∧ k ≤ (if 0 < i then n else 0) ∧ m = n - k) ?_ n _ ?_
          · clear hl h0 h1 h5 h6 h7 h9 fr
            rintro m st ⟨fr, k, rfl, hl, h0, h1, h5, h6, h7, h9, h10, hk, rfl⟩
            have hkn : k ≤ n := by split at hk <;> omega
            refine Ev.seq (Ev.seq (Ev.region ?_))
            by_cases hkk : k < n ∧ 0 < i
            · apply EvOps.keep (h' := []) (d' := false) (fun fr => fr.length = 145 ∧ slotAt fr 0 = some (strs ws) ∧ slotAt fr 1 = some (.L (ofBytes gaps)) ∧ slotAt fr 5 = some (.str (lineUp ws gaps i ++ List.replicate k 32)) ∧ slotAt fr 6 = some (.int .i64 (i : Nat)) ∧ slotAt fr 7 = some (.str w) ∧ slotAt fr 9 = some (.int .i64 (n : Nat)) ∧ slotAt fr 10 = some (.int .i64 (k : Nat)) ∧ slotAt fr 102 = some (.bool true))
              · intro call; simp [hl, h6, h9, h10, hkk.1, hkk.2]; exact rfl
              · exact ⟨by simp [hl], by simp [h0], by simp [h1], by simp [h5], by simp [h6], by simp [h7], by simp [h9], by simp [h10], by simp [hl]⟩
              clear hl h0 h1 h5 h6 h7 h9 h10 fr
              rintro fr ⟨hl, h0, h1, h5, h6, h7, h9, h10, h102⟩
              refine Ev.cond true (by simp [h102]) (fun _ => Ev.skip ?_) (fun h => by simp at h)
              refine Ev.seq (Ev.block (Ev.region ?_))
              apply EvOps.run
              · intro call; simp [hl, h5, show (lineUp ws gaps i).length + k + 1 ≤ 140737488355328 by omega, show (lineUp ws gaps i).length + (k + 1) ≤ 140737488355328 by omega]; exact rfl
              refine Ev.region ?_
              apply EvOps.run
              · intro call; simp [hl, h10, wrap_succ k (by omega)]; exact rfl
              refine ⟨n - (k + 1), by omega, _, k + 1, rfl, by simp [hl], by simp [h0], by simp [h1], ?_, by simp [h6], by simp [h7], by simp [h9], by simp [hl], by rw [if_pos hkk.2]; omega, rfl⟩
              simp [hl, List.replicate_succ']
            · have hke : k = if 0 < i then n else 0 := by
                split
                · rename_i h; rw [if_pos h] at hk; omega
                · rename_i h; rw [if_neg h] at hk; omega
              refine EvOps.mono (Q := fun st => ∃ fr, st = ⟨fr, [], false⟩ ∧ fr.length = 145 ∧ slotAt fr 0 = some (strs ws) ∧ slotAt fr 1 = some (.L (ofBytes gaps)) ∧ slotAt fr 5 = some (.str (lineUp ws gaps i ++ List.replicate k 32)) ∧ slotAt fr 6 = some (.int .i64 (i : Nat)) ∧ slotAt fr 7 = some (.str w) ∧ slotAt fr 102 = some (.bool false)) ?_ ?_
              · by_cases h : k < n
                · apply EvOps.run
                  · intro call; simp [hl, h6, h9, h10, h, show ¬ 0 < i by omega]; exact rfl
                  exact ⟨_, rfl, by simp [hl], by simp [h0], by simp [h1], by simp [h5], by simp [h6], by simp [h7], by simp [hl]⟩
                · apply EvOps.run
                  · intro call; simp [hl, h6, h9, h10, h]; exact rfl
                  exact ⟨_, rfl, by simp [hl], by simp [h0], by simp [h1], by simp [h5], by simp [h6], by simp [h7], by simp [hl]⟩
              clear hl h0 h1 h5 h6 h7 h9 h10 fr
              rintro st ⟨fr, rfl, hl, h0, h1, h5, h6, h7, h102⟩
              refine Ev.cond false (by simp [h102]) (fun h => by simp at h) (fun _ => Ev.exit ?_)
              exact ⟨fr, rfl, hl, h0, h1, by rw [← hke]; exact h5, h6, h7⟩
          · exact ⟨_, 0, rfl, by simp [hl], by simp [h0], by simp [h1], by simp [h5], by simp [h6], by simp [h7], by simp [h9], by simp [hl], by omega, rfl⟩
        clear hl h0 h1 h5 h6 h7 h9 fr
        rintro st ⟨fr, rfl, hl, h0, h1, h5, h6, h7⟩
        have hup : lineUp ws gaps i ++ List.replicate (if 0 < i then n else 0) 32 ++ w = lineUp ws gaps (i + 1) := by rw [lineUp_succ ws gaps i hc, ← hw, ← hn]
        have hul : (lineUp ws gaps i ++ List.replicate (if 0 < i then n else 0) 32).length ≤ 23 * i + 3 := by
          rw [List.length_append, List.length_replicate]; split <;> omega
        have hul2 : (lineUp ws gaps (i + 1)).length ≤ 23 * (i + 1) := by rw [← hup, List.length_append]; omega
        generalize lineUp ws gaps i ++ List.replicate (if 0 < i then n else 0) 32 = U at h5 hup hul
        refine Ev.region ?_
        apply EvOps.run
        · intro call; simp [hl, h5, h7, show U.length + w.length ≤ 140737488355328 by omega, hup]; exact rfl
        refine Ev.region ?_
        apply EvOps.run
        · intro call; simp [hl, h6, wrap_succ i (by omega)]; exact rfl
        refine ⟨ws.length - (i + 1), by omega, _, i + 1, rfl, by simp [hl], by simp [h0], by simp [h1], by simp [hl], by simp [hl], by omega, hul2, fun t ht h => ?_, fun _ c r e => ?_, rfl⟩
        · by_cases e : t = i
          · subst e; rw [← hw]; exact hwok
          · exact hok t ht (by omega)
        · by_cases e0 : i = 0
          · subst e0
            rw [List.getElem?_eq_getElem hc, ← hw] at e
            exact hwst rfl c r (by simpa using e)
          · exact hstar (by omega) c r e
      · simp only [decide_eq_false_iff_not] at hc
        have hin : i = ws.length := by omega
        subst hin
        exact ⟨_, rfl, by simp [hl], by simp [h0], by simp [h5], fun w hw => by
          obtain ⟨t, ht, rfl⟩ := List.getElem_of_mem hw
          exact hok t ht ht, hstar hw1⟩
    · exact ⟨_, 0, rfl, by simp [hl], by simp [h0], by simp [h1], by simp [hl, lineUp], by simp [hl], by omega, by simp [lineUp], fun t _ h => by omega, fun h => by omega, rfl⟩
  clear hl h0 h1 fr
  rintro st ⟨fr, rfl, hl, h0, h5, hok, hstar⟩
  have hline := line_cmd ws gaps hok hw1 hw40 hstar
  have hll := lineUp_len ws gaps hok ws.length
  obtain ⟨U, hU⟩ : ∃ U, U = lineUp ws gaps ws.length := ⟨_, rfl⟩
  rw [← hU] at hline hll h5
  have hokC : okC ws = true := by
    simp only [okC, Bool.and_eq_true, decide_eq_true_eq, List.all_eq_true]
    exact ⟨⟨hw1, by omega⟩, fun w hw => by have := (hok w hw).2.1; omega⟩
  have hprint := printC_ok ws (by omega)
  rw [if_pos hokC] at hprint
  have hEl := encC_len hokC
  have hcmd := cmd_whole ws hokC
  have hwsne : ws ≠ [] := by intro e; simp [e] at hw1
  have hend0 : Ret cfg 75 [.str []] (.tuple [strs [], .int .i64 0, .int .i64 0]) := cmd_none [] (by simp) (by simp)
  -- two readers
  refine Ev.seq (Ev.region ?_)
  refine EvOps.calli rfl rfl (by simp) (by simp <;> exact rfl) (new_ok []) ?_
  rintro v h' d' ⟨rfl, rfl⟩
  refine EvOps.calli rfl rfl (by simp) (by simp <;> exact rfl) (new_ok _) ?_
  rintro v h' d2 ⟨rfl, rfl⟩
  apply EvOps.keep (h' := [.cells [.str [], .int .i64 0], .cells [.str [], .int .i64 0]]) (d' := false || d' || d2) (fun fr => fr.length = 145 ∧ slotAt fr 0 = some (strs ws) ∧ slotAt fr 5 = some (.str U) ∧ slotAt fr 11 = some (.ptr 0 0) ∧ slotAt fr 12 = some (.ptr 1 0))
  · intro call; simp [hl]; exact rfl
  · exact ⟨by simp [hl], by simp [h0], by simp [h5], by simp [hl], by simp [hl]⟩
  clear hl h0 h5 fr
  rintro fr ⟨hl, h0, h5, h11, h12⟩
  generalize (false || d' || d2) = d
  clear d' d2
  -- the line is fed
  have hchunk : ∀ τ, (AV.list [.list (ofBytes (U ++ [32, 13, 10])) true none (some τ)] true (some 1) none).strip = chunks [U ++ [32, 13, 10]] := fun τ => by simp [chunks, stripL_bytes]
  have feedA := feed_ok [.cells [.str [], .int .i64 0], .cells [.str [], .int .i64 0], .own (U ++ [32, 13, 10]).length 1] 0 [] rfl (.list [.list (ofBytes (U ++ [32, 13, 10])) true none (some 2)] true (some 1) none) [U ++ [32, 13, 10]] (hchunk 2) (by simp) (by simp) (by simp; omega) [ws] [] hend0
    (.inr ⟨ws, rfl, rfl, hwsne, by omega, by simp, by simpa using hline⟩)
  refine Ev.seq (Ev.region (EvOps.take 5 ?_))
  apply EvOps.run
  · intro call; simp [hl, h5, h11, show U.length + 3 ≤ 140737488355328 by omega, buildSliceA]; exact rfl
  refine EvOps.calli rfl rfl (by simp) (by simp [hl] <;> exact rfl) (by simpa using feedA) ?_
  rintro v h1 d1 fed
  obtain ⟨o, rfl, go, to⟩ := fed.out
  have hq1 : h1[1]? = some (.cells [.str [], .int .i64 0]) := by rw [fed.old 1 (by simp) (by omega)]; rfl
  clear feedA fed
  apply EvOps.keep (h' := h1) (d' := d || d1) (fun fr => fr.length = 145 ∧ slotAt fr 0 = some (strs ws) ∧ slotAt fr 12 = some (.ptr 1 0) ∧ slotAt fr 13 = some o ∧ slotAt fr 14 = some (.int .i64 0))
  · intro call; simp [hl]; exact rfl
  · exact ⟨by simp [hl], by simp [h0], by simp [h12], by simp [hl], by simp [hl]⟩
  clear hl h0 h5 h11 h12 fr
  rintro fr ⟨hl, h0, h12, h13, h14⟩
  -- the list is fed
  have feedB := feed_ok h1 1 [] hq1 (.list [.L (ofBytes (encC ws))] true (some 1) none) [encC ws] (by simp [chunks, stripL_bytes]) (by simp) (by simp) (by simp; omega) [ws] [] hend0
    (.inr ⟨ws, rfl, rfl, hwsne, by omega, by simp [encC, headS], by simpa using hcmd⟩)
  refine Ev.seq (Ev.region (EvOps.take 2 ?_))
  apply EvOps.run
  · intro call; simp [hl, h0, h12]; exact rfl
  refine EvOps.call rfl (by simp) (by simp [hl] <;> exact rfl) (by simp <;> exact rfl) hprint ?_
  refine EvOps.take 1 ?_
  apply EvOps.run
  · intro call; simp [hl, buildSliceA]; exact rfl
  refine EvOps.calli rfl rfl (by simp) (by simp [hl] <;> exact rfl) (by simpa using feedB) ?_
  rintro v h2 d2 fed2
  obtain ⟨o2, rfl, go2, to2⟩ := fed2.out
  apply EvOps.keep (h' := h2) (d' := d || d1 || d2) (fun fr => fr.length = 145 ∧ slotAt fr 13 = some o ∧ slotAt fr 14 = some (.int .i64 0) ∧ slotAt fr 15 = some o2 ∧ slotAt fr 16 = some (.int .i64 0))
  · intro call; simp [hl]; exact rfl
  · exact ⟨by simp [hl], by simp [h13], by simp [h14], by simp [hl], by simp [hl]⟩
  clear hl h0 h12 h13 h14 fr
  rintro fr ⟨hl, h13, h14, h15, h16⟩
  have hsame := sameC_ok [ws] (by simp) (by simpa using (by omega : ws.length < 2 ^ 60))
  have hlen : lenA Try.prog 22 o = some (.int .i64 1) := by
    rcases go with ⟨rfl, e⟩ | ⟨τ, rfl, _⟩ | ⟨nn, rfl⟩
    · simp at e
    · simp
    · simp
  refine Ev.seq (Ev.region (EvOps.take 9 ?_))
  apply EvOps.run
  · intro call; simp [hl, h13, h14, h15, h16]; exact rfl
  refine EvOps.call rfl (by simp [hl]) (by simp [hl] <;> exact rfl) (by simp [go.strip, go2.strip] <;> exact rfl) (by simpa using hsame) ?_
  apply EvOps.run
  · intro call; simp [-lenA, hl, h13, hlen]; exact rfl
  exact Ev.ret ⟨by simp, by simp [Try.f11, hl]⟩
end Go.Proofs.Ytnifldbmflkmpaa

/-
  (*strings.Builder).copyCheck and WriteByte at this program; glob.Quote's contract by a walk.
-/
namespace Go.Proofs.Ytnifldbmflkmpaa
open Go Go.RowKit Go.Proofs
set_option linter.unusedVariables false
set_option maxRecDepth 100000
theorem sizeB : (Try.prog.info? 91).map (·.size) = some 2 := by kernel_rfl
theorem liesB : liesAt Try.prog Try.prog.depth 91 (2 / Try.prog.cellsOf 91) 0 91 1 = true := by kernel_rfl
set_option maxHeartbeats 1000000 in
/-- copyCheck at a builder that has been used. -/
theorem copy_used (b : Nat) (w : World) (h0 : w.cell? ⟨b, 0, none⟩ = some (.pointer (some ⟨b, 0, none⟩))) :
    Calls Try.prog 83 #[.pointer (some ⟨b, 0, none⟩)] w fun e w' => e = .returned (.tuple #[]) ∧ w' = w := by
  obtain ⟨j, hj, _⟩ := Option.map_eq_some_iff.1 sizeB
  go_enter Try.func83, Try.ntmps83
  go_wp2
  rw [Lib.run_neq_ptr_same w _ Try.underlying89 hj]
  go_wp2
  go_end0
  exact ⟨rfl, rfl⟩
set_option maxHeartbeats 1000000 in
/-- copyCheck at a new builder. -/
theorem copy_fresh (b : Nat) (w : World) (h0 : w.cell? ⟨b, 0, none⟩ = some (.pointer none)) (hsh : w.shape? b = some (91, 2)) (hfz : w.frozen? ⟨b, 0, none⟩ = false) :
    Calls Try.prog 83 #[.pointer (some ⟨b, 0, none⟩)] w fun e w' => e = .returned (.tuple #[]) ∧ w' = w.setCell ⟨b, 0, none⟩ (.pointer (some ⟨b, 0, none⟩)) := by
  obtain ⟨j, hj, hjs⟩ := Option.map_eq_some_iff.1 sizeB
  go_enter Try.func83, Try.ntmps83
  go_wp2
  rw [Lib.run_to_unsafe w ⟨b, 0, none⟩ Try.underlying89 Try.underlying136 hj (by rw [hjs]; decide) hsh (Nat.zero_lt_succ 1)]
  simp only [Result.andThen]
  rw [Oper.upon_value]
  go_wp2
  rw [run_callFunc_extern Try.func104 (by kernel_rfl) (by kernel_rfl) (by kernel_rfl) (e := Extern.AbiNoEscape.same) (by kernel_rfl)]
  rw [Lib.run_noEscape]
  simp only [Result.andThen]
  rw [Oper.upon_value]
  go_wp2
  rw [Lib.run_from_unsafe w ⟨b, 0, none⟩ Try.underlying136 Try.underlying89 hj hsh liesB]
  simp only [Result.andThen]
  rw [Oper.upon_value]
  go_wp2
  go_end0
  exact ⟨rfl, rfl⟩
theorem infoB : (Try.prog.info? 5).map (fun i => (i.zero, i.size, i.bytes)) = some (some (.int .u8 0), 1, 1) := by kernel_rfl
theorem copy_any (B b : Nat) (bs : List Value) (w : World) (h : Lib.IsBuilderF 91 5 B b bs w) :
    Calls Try.prog 83 #[.pointer (some ⟨b, 0, none⟩)] w fun e w' => e = .returned (.tuple #[]) ∧ (Lib.BuilderAtF 91 5 B b (.pointer (some ⟨b, 0, none⟩)) bs w' ∧ Below B w w') := by
  rcases h with h | h
  · refine (copy_fresh b w h.cell0 h.shape h.frozen0).mono ?_
    rintro e w' ⟨rfl, rfl⟩
    exact ⟨rfl, h.used _, (Below.refl B w).setCell (p := ⟨b, 0, none⟩) h.1 _⟩
  · refine (copy_used b w h.cell0).mono ?_
    rintro e w' ⟨rfl, rfl⟩
    exact ⟨rfl, h, Below.refl B _⟩
set_option maxHeartbeats 2000000 in
/-- One octet more. -/
theorem byte_more (B b : Nat) (bs : List Value) (c : Int) (w : World) (h : Lib.IsBuilderF 91 5 B b bs w) (hlen : bs.length + 1 ≤ 140737488355328) (hBw : B ≤ w.heap.size) :
    Calls Try.prog 68 #[.pointer (some ⟨b, 0, none⟩), .int .u8 c] w fun e w' => e = .returned .nilIface ∧ (Lib.BuilderAtF 91 5 B b (.pointer (some ⟨b, 0, none⟩)) (bs ++ [.int .u8 c]) w' ∧ Below B w w') := by
  obtain ⟨i0, hi, hz0, hz1, hz2⟩ := info_parts infoB
  go_enter Try.func68, Try.ntmps68
  go_wp2_with (go_at_call 83; refine (copy_any B b bs _ h).mono ?_)
  rintro e w1 ⟨rfl, h1, hb1⟩
  obtain ⟨hB, v, hbk, hown, hne⟩ := h1
  have c0 : w1.cell? ⟨b, 0, none⟩ = some (.pointer (some ⟨b, 0, none⟩)) := by rw [Lib.cell_of_heap hbk]; rfl
  have c1 : w1.cell? ⟨b, 1, none⟩ = some v := by rw [Lib.cell_of_heap hbk]; rfl
  go_wp2_with (at_builtin; refine wpList_append_ownF _ rfl _ _ 43 rfl B 5 i0 (.int .u8 0) 1 1 Try.underlying43 hi hz0 hz1 hz2 rfl (by decide) _ _ _ rfl (hown.alloc _) ⟨w1.heap.size, 0, none⟩ 1 1 [.int .u8 c] rfl rfl ?c1 ?c2 ?c3 ?c4 ?c5 ?_)
  case c1 =>
    intro j u hj
    match j, hj with
    | 0, hj => simp at hj; subst hj; simp [Addr.add]
  case c2 => intro u hu; simp at hu; subst hu; rfl
  case c3 => unfold maxLen; omega
  case c4 => omega
  case c5 => have := hb1.size; simp; omega
  intro v' w2 hown' hgrow _
  have hlt : b < w1.heap.size := by
    rcases Nat.lt_or_ge b w1.heap.size with h' | h'
    · exact h'
    · simp [Array.getElem?_eq_none h'] at hbk
  have hb2 : w2.heap[b]? = some (.cells #[.pointer (some ⟨b, 0, none⟩), v] 91 (0, 0)) := by
    rw [hgrow.block b (by simp; omega) (fun e => hne e.symm), Lib.alloc_old w1 _ b hlt]
    exact hbk
  have d0 : w2.cell? ⟨b, 0, none⟩ = some (.pointer (some ⟨b, 0, none⟩)) := by rw [Lib.cell_of_heap hb2]; rfl
  have d1 : w2.cell? ⟨b, 1, none⟩ = some v := by rw [Lib.cell_of_heap hb2]; rfl
  have f1 : w2.frozen? ⟨b, 1, none⟩ = false := Lib.frozen_of_heap hb2 1
  obtain ⟨g, cap, rfl⟩ : ∃ g cap, v' = .slice (some ⟨g, 0, none⟩) (bs.length + 1) cap := by
    rcases hown'.2 with ⟨_, h0⟩ | ⟨g, cap, cur, fz, hv, _⟩
    · omega
    · exact ⟨g, cap, hv⟩
  go_wp2
  go_ret
  refine ⟨rfl, ?_, ?_⟩
  · exact Lib.BuilderAtF.put (T := 91) (e := 5) hB hb2 (bs' := bs ++ [.int .u8 c]) (by simpa using hown') (by decide)
  · exact ((hb1.alloc (by have := hb1.size; omega) _).grown hgrow (by have := hb1.size; simp; omega) (fun k hk => (hown.lt k hk).1)).setCell (p := ⟨b, 1, none⟩) hB _
end Go.Proofs.Ytnifldbmflkmpaa

/-
  DERIVED: THE SHELF's CONTRACTS AT THIS DUMP, IN PLAIN WORDS (tools/lay-plain.mjs out of 'TryShelf.lean', which tools/lay-shelf.mjs wrote): THE SAME DECLARATIONS UNDER THE SAME NAMES: 'import', 'namespace', 'open', 'def', 'theorem' AND NOTHING ELSE: no command of the shelf's: FOR A HAND-IN. Each laying: the table of numbers ('.._ren') and one theorem, a field a fact of the dump's own or the kernel's comparison; each contract: ONE APPLICATION.
-/
namespace Go.Proofs
open Go.Shelf
def Try.lays169_ren : Go.Shelf.Ren := ⟨fun | 169 => 69 | n => n, fun | 70 => 89 | 9 => 9 | 0 => 0 | 72 => 91 | 37 => 43 | 127 => 114 | 3 => 3 | 5 => 5 | n => n, fun | n => n⟩
theorem Try.lays169 : Go.Proofs.Lays.n169 Try.prog Try.lays169_ren := {
  mixed := by kernel_rfl
  f169 := Try.func69.trans (congrArg some (by kernel_rfl))
  t0 := Try.underlying0
  a0 := Try.isAgg0
  z0 := Try.sizeOf0
  v0 := Try.zeroValue0
  t3 := Try.underlying3
  a3 := Try.isAgg3
  z3 := Try.sizeOf3
  v3 := Try.zeroValue3
  t9 := Try.underlying9
  a9 := Try.isAgg9
  z9 := Try.sizeOf9
  v9 := Try.zeroValue9
  t37 := Try.underlying43
  a37 := Try.isAgg43
  z37 := Try.sizeOf43
  v37 := Try.zeroValue43
  t70 := Try.underlying89
  a70 := Try.isAgg89
  z70 := Try.sizeOf89
  v70 := Try.zeroValue89
  t72 := Try.underlying91
  a72 := Try.isAgg91
  z72 := Try.sizeOf91
  v72 := Try.zeroValue91
  t127 := Try.underlying114
  a127 := Try.isAgg114
  z127 := Try.sizeOf114
  v127 := Try.zeroValue114 }
theorem Try.Builder_Extra_169 : Builder.Extra Try.prog Try.lays169_ren := {
  sizeBuilder := by kernel_rfl
  liesBuilder := by kernel_rfl
  t5 := Try.underlying5
  a5 := Try.isAgg5
  z5 := Try.sizeOf5
  v5 := Try.zeroValue5
  infoByte := by kernel_rfl
  cellsByte := by kernel_rfl
  sizeByte := by kernel_rfl
  neB5 := by decide }
def Try.lays137_ren : Go.Shelf.Ren := ⟨fun | 137 => 67 | 217 => 82 | 266 => 103 | n => n, fun | 9 => 9 | 5 => 5 | 3 => 3 | n => n, fun | n => n⟩
theorem Try.lays137 : Go.Proofs.Lays.n137 Try.prog Try.lays137_ren := {
  mixed := by kernel_rfl
  f137 := Try.func67.trans (congrArg some (by kernel_rfl))
  f217 := Try.func82.trans (congrArg some (by kernel_rfl))
  f266 := Try.func103.trans (congrArg some (by kernel_rfl))
  t3 := Try.underlying3
  a3 := Try.isAgg3
  z3 := Try.sizeOf3
  v3 := Try.zeroValue3
  t5 := Try.underlying5
  a5 := Try.isAgg5
  z5 := Try.sizeOf5
  v5 := Try.zeroValue5
  t9 := Try.underlying9
  a9 := Try.isAgg9
  z9 := Try.sizeOf9
  v9 := Try.zeroValue9 }
open Go.RowKit in
/-- strings.IndexByte: "IndexByte returns the index of the first instance of c in s, or -1 if c is not present in s.": IT RETURNS 'Lib.indexByte s c'; the world is as it was. (LAID: no walk: one application.) -/
theorem Try.strings_IndexByte (s : ByteArray) (c : Int) (w : World) :
    Calls Try.prog 67 #[.string s, .int .u8 c] w fun e w' => e = .returned (.int .i64 (Lib.indexByte s.data.toList c.toNat.toUInt8)) ∧ w' = w := Any.strings_IndexByte Try.lays137 s c w
open Go.RowKit in
/-- (*strings.Builder).String: "String returns the accumulated string.": WHATEVER THE BUILDER HOLDS; THE FORM '_k': OVER 'Lib.IsBuilderF' (a builder that 'String()' may have read), AND WITH THE FRAME THAT REACHES ABOVE THE BUILDER: 'Lib.OthersKept': every block that is not b and is no row of uint8's stands as it stood: the iterator of a range among them. (LAID: no walk: one application.) -/
theorem Try.Builder_String_any_k (B b : Nat) (l : List UInt8) (w : World) (h : Lib.IsBuilderF 91 5 B b (Lib.byteCells l) w) (hBw : B ≤ w.heap.size) :
    Calls Try.prog 69 #[.pointer (some ⟨b, 0, none⟩)] w fun e w' => e = .returned (.string ⟨l.toArray⟩) ∧ (Lib.IsBuilderF 91 5 B b (Lib.byteCells l) w' ∧ Below B w w' ∧ Lib.OthersKept 5 (some b) w w') := Any.Builder_String_any_k Try.lays169 Try.Builder_Extra_169 B b l w h hBw
end Go.Proofs

/-
  glob.Quote: its contract, by a walk over the library's contracts for strings.Builder.
-/
namespace Go.Proofs.Ytnifldbmflkmpaa
open Go Go.RowKit Go.Proofs
set_option linter.unusedVariables false
set_option maxRecDepth 1000000
set_option maxHeartbeats 4000000 in
theorem quote_walk (s : ByteArray) (w : World) (hs : s.size ≤ 1000) :
    Calls Try.prog 38 #[.string s] w fun e w' => e = .returned (.string ⟨(quoteS s.data.toList).toArray⟩) ∧ Below w.heap.size w w' := by
  go_enter Try.func38, Try.ntmps38
  go_wp2
  go_loopw [7] (fun vi wr => ∃ (i : Nat), vi = .int .i64 i ∧ i ≤ s.size ∧ Lib.IsBuilderF 91 5 w.heap.size w.heap.size (Lib.byteCells (quoteS (s.data.toList.take i))) wr ∧ Below w.heap.size w wr) (fun vi wr => s.size - (RowKit.intOf vi).toNat)
  case atStart =>
    refine ⟨0, rfl, by omega, ?_, ?_⟩
    · exact Lib.IsBuilderF.of (Lib.fresh_isBuilder 91 5 w)
    · exact (Below.refl _ w).alloc (Nat.le_refl _) _
  case round =>
    obtain ⟨i, rfl, hi, hI, hbw⟩ := hrel
    have hql := quote_len_take s.data.toList i
    have hl : s.data.toList.length = s.size := by simp
    have hbB : w.heap.size ≤ wr.heap.size := hbw.size
    have hlen : (Lib.byteCells (quoteS (List.take i s.data.toList))).length ≤ 2000 := by rw [Lib.byteCells_length]; omega
    clear hl hql
    by_cases hc : i < s.size
    · have hstep : Hid (quoteS (s.data.toList.take (i + 1)) = quoteS (s.data.toList.take i) ++ (if isSign s[i] then [92, s[i]] else [s[i]])) := by
        have h2 : i < s.data.toList.length := by simpa using hc
        have e : s.data.toList[i] = s[i] := by simp; rfl
        have := quote_take s.data.toList i h2
        rw [e] at this
        exact this
      have hsg : Hid (decide (0 ≤ Lib.indexByte [42, 63, 91, 92] s[i]) = isSign s[i]) := sign_idx _
      by_cases hx : 0 ≤ Lib.indexByte [42, 63, 91, 92] s[i]
      · go_wp2_with (first | (go_at_call 67; refine (Try.strings_IndexByte _ _ _).mono ?_) | (go_at_call 68; refine (byte_more w.heap.size w.heap.size _ 92 _ hI (by omega) (by omega)).mono ?_))
        rintro e w1 ⟨rfl, h1, b1⟩
        have hb1 : w.heap.size ≤ w1.heap.size := by have := b1.size; omega
        go_wp2_with (go_at_call 68; refine (byte_more w.heap.size w.heap.size _ _ _ (Or.inr h1) (by simp; omega) (by omega)).mono ?_)
        rintro e w2 ⟨rfl, h2, b2⟩
        go_wp2
        go_roundw
        case rel =>
          refine ⟨i + 1, by go_num, by omega, ?_, (hbw.trans b1).trans b2⟩
          have hs1 := hsg.out
          rw [decide_eq_true hx] at hs1
          rw [hstep.out, ← hs1, if_pos rfl, Lib.byteCells_append]
          refine Or.inr ?_
          have e2 : Lib.byteCells (quoteS (List.take i s.data.toList)) ++ Lib.byteCells [92, s[i]] = Lib.byteCells (quoteS (List.take i s.data.toList)) ++ [Value.int IntKind.u8 92] ++ [Value.int IntKind.u8 (s[i].toNat : Int)] := by simp [Lib.byteCells]
          rw [e2]
          exact h2
        case measure => simp [RowKit.intOf]; omega
      · go_wp2_with (first | (go_at_call 67; refine (Try.strings_IndexByte _ _ _).mono ?_) | (go_at_call 68; refine (byte_more w.heap.size w.heap.size _ _ _ hI (by omega) (by omega)).mono ?_))
        rintro e w1 ⟨rfl, h1, b1⟩
        go_wp2
        go_roundw
        case rel =>
          refine ⟨i + 1, by go_num, by omega, ?_, hbw.trans b1⟩
          have hs1 := hsg.out
          rw [show decide (0 ≤ Lib.indexByte [42, 63, 91, 92] s[i]) = false from decide_eq_false (by omega)] at hs1
          rw [hstep.out, ← hs1, if_neg (by simp), Lib.byteCells_append]
          refine Or.inr ?_
          exact h1
        case measure => simp [RowKit.intOf]; omega
    · go_wp2_with (go_at_call 69; refine (Try.Builder_String_any_k w.heap.size w.heap.size _ _ hI (by omega)).mono ?_)
      rintro e w1 ⟨rfl, h1, b1, _⟩
      go_wp2
      go_ret
      have hi2 : i = s.size := by omega
      rw [List.take_of_length_le (by simp; omega)]
      exact ⟨rfl, hbw.trans b1⟩
end Go.Proofs.Ytnifldbmflkmpaa

/-
  DERIVED: THE SHELF's CONTRACTS AT THIS DUMP, IN PLAIN WORDS (tools/lay-plain.mjs out of 'TryShelf.lean', which tools/lay-shelf.mjs wrote): THE SAME DECLARATIONS UNDER THE SAME NAMES: 'import', 'namespace', 'open', 'def', 'theorem' AND NOTHING ELSE: no command of the shelf's: FOR A HAND-IN. Each laying: the table of numbers ('.._ren') and one theorem, a field a fact of the dump's own or the kernel's comparison; each contract: ONE APPLICATION.
-/
namespace Go.Proofs
open Go.Shelf
def Try.lays190_ren : Go.Shelf.Ren := ⟨fun | 190 => 94 | 125 => 108 | 258 => 107 | 128 => 122 | 129 => 123 | 302 => 114 | 303 => 115 | 304 => 116 | 305 => 117 | 306 => 118 | 307 => 119 | 308 => 96 | 309 => 120 | 310 => 121 | 333 => 126 | 329 => 127 | 330 => 128 | 334 => 129 | 335 => 130 | 336 => 109 | 344 => 135 | n => n, fun | 31 => 24 | 9 => 9 | 3 => 3 | 46 => 130 | 0 => 0 | 51 => 154 | 53 => 117 | 4 => 4 | 183 => 148 | 182 => 147 | 131 => 109 | 5 => 5 | 218 => 157 | 222 => 161 | 228 => 164 | 229 => 165 | n => n, fun | n => n⟩
theorem Try.lays190 : Go.Proofs.Lays.n190 Try.prog Try.lays190_ren := {
  mixed := by kernel_rfl
  f125 := Try.func108.trans (congrArg some (by kernel_rfl))
  f128 := Try.func122.trans (congrArg some (by kernel_rfl))
  f129 := Try.func123.trans (congrArg some (by kernel_rfl))
  f190 := Try.func94.trans (congrArg some (by kernel_rfl))
  f258 := Try.func107.trans (congrArg some (by kernel_rfl))
  f302 := Try.func114.trans (congrArg some (by kernel_rfl))
  f303 := Try.func115.trans (congrArg some (by kernel_rfl))
  f304 := Try.func116.trans (congrArg some (by kernel_rfl))
  f305 := Try.func117.trans (congrArg some (by kernel_rfl))
  f306 := Try.func118.trans (congrArg some (by kernel_rfl))
  f307 := Try.func119.trans (congrArg some (by kernel_rfl))
  f308 := Try.func96.trans (congrArg some (by kernel_rfl))
  f309 := Try.func120.trans (congrArg some (by kernel_rfl))
  f310 := Try.func121.trans (congrArg some (by kernel_rfl))
  f329 := Try.func127.trans (congrArg some (by kernel_rfl))
  f330 := Try.func128.trans (congrArg some (by kernel_rfl))
  f333 := Try.func126.trans (congrArg some (by kernel_rfl))
  f334 := Try.func129.trans (congrArg some (by kernel_rfl))
  f335 := Try.func130.trans (congrArg some (by kernel_rfl))
  f336 := Try.func109.trans (congrArg some (by kernel_rfl))
  f344 := Try.func135.trans (congrArg some (by kernel_rfl))
  t0 := Try.underlying0
  a0 := Try.isAgg0
  z0 := Try.sizeOf0
  v0 := Try.zeroValue0
  t3 := Try.underlying3
  a3 := Try.isAgg3
  z3 := Try.sizeOf3
  v3 := Try.zeroValue3
  t4 := Try.underlying4
  a4 := Try.isAgg4
  z4 := Try.sizeOf4
  v4 := Try.zeroValue4
  t5 := Try.underlying5
  a5 := Try.isAgg5
  z5 := Try.sizeOf5
  v5 := Try.zeroValue5
  t9 := Try.underlying9
  a9 := Try.isAgg9
  z9 := Try.sizeOf9
  v9 := Try.zeroValue9
  t31 := Try.underlying24
  a31 := Try.isAgg24
  z31 := Try.sizeOf24
  v31 := Try.zeroValue24
  t46 := Try.underlying130
  a46 := Try.isAgg130
  z46 := Try.sizeOf130
  v46 := Try.zeroValue130
  t51 := Try.underlying154
  a51 := Try.isAgg154
  z51 := Try.sizeOf154
  v51 := Try.zeroValue154
  t53 := Try.underlying117
  a53 := Try.isAgg117
  z53 := Try.sizeOf117
  v53 := Try.zeroValue117
  t131 := Try.underlying109
  a131 := Try.isAgg109
  z131 := Try.sizeOf109
  v131 := Try.zeroValue109
  t182 := Try.underlying147
  a182 := Try.isAgg147
  z182 := Try.sizeOf147
  v182 := Try.zeroValue147
  t183 := Try.underlying148
  a183 := Try.isAgg148
  z183 := Try.sizeOf148
  v183 := Try.zeroValue148
  t218 := Try.underlying157
  a218 := Try.isAgg157
  z218 := Try.sizeOf157
  v218 := Try.zeroValue157
  t222 := Try.underlying161
  a222 := Try.isAgg161
  z222 := Try.sizeOf161
  v222 := Try.zeroValue161
  t228 := Try.underlying164
  a228 := Try.isAgg164
  z228 := Try.sizeOf164
  v228 := Try.zeroValue164
  t229 := Try.underlying165
  a229 := Try.isAgg165
  z229 := Try.sizeOf165
  v229 := Try.zeroValue165 }
open Go.Sort Go.RowKit in
theorem Try.slices_Sort_string (blk off cap : Nat) (ss : List (List UInt8)) (w : World) (hH : Holds encStr w blk off ss.toArray) (hblk : blk < w.heap.size) (hsz : ss.length < 4611686018427387904) :
    Calls Try.prog 94 #[.slice (some ⟨blk, off, none⟩) ss.length cap] w fun e w' =>
      e = .returned (.tuple #[]) ∧ ∃ n os, w' = grow (putRow encStr (Sort.ahead w n) blk off (ss.mergeSort fun x y => decide (x ≤ y)).toArray) os := Any.slices_Sort_string Try.lays190 blk off cap ss w hH hblk hsz
def Try.laysNm216_ren : Go.Shelf.Ren := ⟨fun | 16 => 58 | n => n, fun | 24 => 24 | 9 => 9 | 4 => 4 | n => n, fun | n => n⟩
theorem Try.laysNm216 : Go.Proofs.Lays2.n16 Try.prog Try.laysNm216_ren := {
  mixed := by kernel_rfl
  f16 := Try.func58.trans (congrArg some (by kernel_rfl))
  t4 := Try.underlying4
  a4 := Try.isAgg4
  z4 := Try.sizeOf4
  v4 := Try.zeroValue4
  t9 := Try.underlying9
  a9 := Try.isAgg9
  z9 := Try.sizeOf9
  v9 := Try.zeroValue9
  t24 := Try.underlying24
  a24 := Try.isAgg24
  z24 := Try.sizeOf24
  v24 := Try.zeroValue24
  i9 := by kernel_rfl }
open Go.RowKit Go.Lib in
/-- slices.Clone at []string: "Clone returns a copy of the slice. The elements are copied using assignment, so this is a shallow clone. The result may have additional unused capacity. The result preserves the nilness of s.": OF A SLICE THAT IS NOT nil IT RETURNS A SLICE THAT IS NOT nil, OF THE SAME ELEMENTS, IN MEMORY OF THE CALL's OWN: in the how-to's words (6f): 'w'.ownsRow B e 1 v' n cells': v' begins at the head of a row among the blocks from B on (B: the heap's size at the call), not frozen, whose first cells are the elements · 'Below B w w'': below B all is as it was. The capacity is whatever the run-time gives. 'zs': what the cells behind the slice's address hold; 'zs.take n': its elements. (LAID: no walk: one application.) -/
theorem Try.slices_Clone_string (b off n c : Nat) (zs : List ByteArray) (w : World) (hz : n ≤ zs.length) (hbig : n * 16 ≤ 140737488355328) (hc : ∀ j, j < zs.length → w.cell? ⟨b, off + j, none⟩ = some (.string (zs.getD j ByteArray.empty))) :
    Calls Try.prog 58 #[.slice (some ⟨b, off, none⟩) n c] w fun e w' => ∃ v', e = .returned v' ∧ w'.ownsRow w.heap.size 9 1 v' n ((zs.take n).map (Value.string)) ∧ v' ≠ .slice none 0 0 ∧ Below w.heap.size w w' := Any.slices_Clone_string Try.laysNm216 b off n c zs w hz hbig hc
open Go.RowKit Go.Lib in
/-- The same at nil: nil comes back; the world is as it was. (LAID: no walk: one application.) -/
theorem Try.slices_Clone_string_nil (n c : Nat) (w : World) :
    Calls Try.prog 58 #[.slice none n c] w fun e w' => e = .returned (.slice none 0 0) ∧ w' = w := Any.slices_Clone_string_nil Try.laysNm216 n c w
open Go.RowKit Go.Lib in
/-- The same at a slice of length 0 that is not nil, WHATEVER ITS ADDRESS (no cell is asked for): a slice that is not nil and owns nothing comes back. (LAID: no walk: one application.) -/
theorem Try.slices_Clone_string_zero (a : Addr) (c : Nat) (w : World) :
    Calls Try.prog 58 #[.slice (some a) 0 c] w fun e w' => ∃ v', e = .returned v' ∧ w'.ownsRow w.heap.size 9 1 v' 0 [] ∧ v' ≠ .slice none 0 0 ∧ Below w.heap.size w w' := Any.slices_Clone_string_zero Try.laysNm216 a c w
def Try.lays194_ren : Go.Shelf.Ren := ⟨fun | 194 => 95 | n => n, fun | 31 => 24 | 9 => 9 | 3 => 3 | 4 => 4 | 0 => 0 | n => n, fun | n => n⟩
theorem Try.lays194 : Go.Proofs.Lays.n194 Try.prog Try.lays194_ren := {
  mixed := by kernel_rfl
  f194 := Try.func95.trans (congrArg some (by kernel_rfl))
  t0 := Try.underlying0
  a0 := Try.isAgg0
  z0 := Try.sizeOf0
  v0 := Try.zeroValue0
  t3 := Try.underlying3
  a3 := Try.isAgg3
  z3 := Try.sizeOf3
  v3 := Try.zeroValue3
  t4 := Try.underlying4
  a4 := Try.isAgg4
  z4 := Try.sizeOf4
  v4 := Try.zeroValue4
  t9 := Try.underlying9
  a9 := Try.isAgg9
  z9 := Try.sizeOf9
  v9 := Try.zeroValue9
  t31 := Try.underlying24
  a31 := Try.isAgg24
  z31 := Try.sizeOf24
  v31 := Try.zeroValue24 }
open Go.RowKit Go.Lib Go.Sort in
/-- slices.Compact at []string: "Compact replaces consecutive runs of equal elements with a single copy. This is like the uniq command found on Unix. Compact modifies the contents of the slice s and returns the modified slice, which may have a smaller length. Compact zeroes the elements between the new length and the original length. The result preserves the nilness of s.": IT RETURNS THE SLICE CUT TO 'Lib.compact zs'; ITS CELLS HOLD 'Lib.compact zs', THEN ZERO VALUES up to the old length; all else is as it was, but for the count of draws. IN THE WORDS OF slices.Sort's CONTRACT ('Holds', 'putRow'): so the everyday 'slices.Sort(xs); xs = slices.Compact(xs)' goes from the one contract to the other. It asks 'zs.length ≤ cap' (every slice's: the reslicing 's[:k]' looks at it). Length 0, nil: '.._empty'. (LAID: no walk: one application.) -/
theorem Try.slices_Compact_string (blk off cap : Nat) (zs : List (List UInt8)) (w : World) (hH : Holds encStr w blk off zs.toArray) (hsz : zs.length ≤ 9223372036854775807) (hcap : zs.length ≤ cap) :
    Calls Try.prog 95 #[.slice (some ⟨blk, off, none⟩) zs.length cap] w fun e w' => e = .returned (.slice (some ⟨blk, off, none⟩) (Lib.compact zs).length cap) ∧ ∃ q, w' = putRow encStr (Sort.ahead w q) blk off (Lib.compact zs ++ List.replicate (zs.length - (Lib.compact zs).length) []).toArray := Any.slices_Compact_string Try.lays194 blk off cap zs w hH hsz hcap
open Go.RowKit Go.Lib Go.Sort in
/-- The same at a slice of length 0, a nil one too: it comes back as it is. (LAID: no walk: one application.) -/
theorem Try.slices_Compact_string_empty (a : Option Addr) (cap : Nat) (w : World) :
    Calls Try.prog 95 #[.slice a 0 cap] w fun e w' => e = .returned (.slice a 0 cap) ∧ w' = w := Any.slices_Compact_string_empty Try.lays194 a cap w
open Go.RowKit Go.Sort in
/-- .. and plain. (LAID: no walk: one application.) -/
theorem Try.slices_Sort_string_none (p : Option Addr) (cap : Nat) (w : World) :
    Calls Try.prog 94 #[.slice p 0 cap] w fun e w' => e = .returned (.tuple #[]) ∧ w' = w := Any.slices_Sort_string_none Try.lays190 p cap w
end Go.Proofs

/-
  set.of: its contract, by a walk over the library's contracts for slices.Clone, Sort, Compact.
-/
namespace Go.Proofs.Ytnifldbmflkmpaa
open Go Go.RowKit Go.Shelf Go.Sort Go.Proofs
set_option linter.unusedVariables false
/-- What the walk leaves. -/
def LeftS (w : World) (ss : List (List UInt8)) (e : Ending) (w' : World) : Prop :=
  ∃ v, e = .returned v ∧ w'.ownsRow w.heap.size 9 1 v (srt ss).length ((srt ss).map encStr) ∧ Below w.heap.size w w'
theorem leftS_of {w w1 : World} {g cap n nn q : Nat} {os : Array Obj} {ss : List (List UInt8)} (hown : w1.ownsRow w.heap.size 9 1 (.slice (some ⟨g, 0, none⟩) n cap) n (ss.map encStr)) (hbel : Below w.heap.size w w1) (hbg : w.heap.size ≤ g) (hlen : ss.length = n) :
    LeftS w ss (.returned (.slice (some ⟨g, 0, none⟩) (Lib.compact (ss.mergeSort fun x y => decide (x ≤ y))).length cap))
      (putRow encStr (Sort.ahead (grow (putRow encStr (Sort.ahead w1 nn) g 0 (ss.mergeSort fun x y => decide (x ≤ y)).toArray) os) q) g 0 (Lib.compact (ss.mergeSort fun x y => decide (x ≤ y)) ++ List.replicate (n - (Lib.compact (ss.mergeSort fun x y => decide (x ≤ y))).length) []).toArray) := by
  have hl2 : (ss.mergeSort fun x y => decide (x ≤ y)).length = ss.length := List.length_mergeSort ss
  have hle := Lib.compact_length_le (ss.mergeSort fun x y => decide (x ≤ y))
  subst hlen
  rcases hown.2 with ⟨h0, _⟩ | ⟨g', cap', cur, hv, hbase, hb, h1, h2, h3, h4⟩
  · cases h0
  cases hv
  have hs := ownsRow_sorted (n := nn) (os := os) (ts := ss.mergeSort fun x y => decide (x ≤ y)) hl2 hbase hb h1 h2 h3
  have hc := Lib.ownsRow_putRow (q := q) (k := (Lib.compact (ss.mergeSort fun x y => decide (x ≤ y))).length) (ys := Lib.compact (ss.mergeSort fun x y => decide (x ≤ y)) ++ List.replicate (ss.length - (Lib.compact (ss.mergeSort fun x y => decide (x ≤ y))).length) []) hs (by simp; omega) (by omega)
  rw [List.take_left] at hc
  exact ⟨_, rfl, hc, Lib.below_putRow (hbel.grown (grownBy_sorted _) hbel.size (fun j hj => by cases hj; exact hbase)) hbg⟩
set_option maxHeartbeats 2000000 in
set_option maxRecDepth 100000 in
theorem of_tail (n : Nat) (arg : Value) (ss : List (List UInt8)) (w : World) (hn : n ≤ 4611686018427387903)
    (hclone : Calls Try.prog 58 #[arg] w fun e w' => ∃ v', e = .returned v' ∧ w'.ownsRow w.heap.size 9 1 v' n (ss.map encStr) ∧ v' ≠ .slice none 0 0 ∧ Below w.heap.size w w') :
    Calls Try.prog 77 #[arg] w (LeftS w ss) := by
  go_enter Try.func77, Try.ntmps77
  go_wp2_with (go_at_call 58; refine hclone.mono ?_)
  rintro e w1 ⟨v1, rfl, hown, hnn, hbel⟩
  obtain ⟨g, cap, rfl, hbg, hgl, hncap, hcm, hlen, hH⟩ := Lib.holds_of_ownsRow hown hnn
  have hsort := Try.slices_Sort_string g 0 cap ss w1 hH hgl (by omega)
  rw [hlen] at hsort
  have X : Aside (w1.ownsRow w.heap.size 9 1 (.slice (some ⟨g, 0, none⟩) n cap) n (ss.map encStr) ∧ Below w.heap.size w w1 ∧ w.heap.size ≤ g ∧ g < w1.heap.size ∧ n ≤ cap ∧ cap ≤ maxLen ∧ ss.length = n ∧ Holds encStr w1 g 0 ss.toArray) := ⟨hown, hbel, hbg, hgl, hncap, hcm, hlen, hH⟩
  clear hown hbel hH hnn
  go_wp2_with (go_at_call 94; refine hsort.mono ?_)
  rintro e w2 ⟨rfl, nn, os, rfl⟩
  have hl2 : (ss.mergeSort fun x y => decide (x ≤ y)).length = n := by rw [List.length_mergeSort]; exact X.out.2.2.2.2.2.2.1
  have hH2 : Holds encStr (grow (putRow encStr (Sort.ahead w1 nn) g 0 (ss.mergeSort fun x y => decide (x ≤ y)).toArray) os) g 0 (ss.mergeSort fun x y => decide (x ≤ y)).toArray :=
    holds_grow encStr _ os g 0 _ (by simpa [putRow, mapBlock, Sort.ahead] using X.out.2.2.2.1) (holds_putRow encStr _ g 0 _ _ (holds_ahead encStr w1 nn g 0 _ X.out.2.2.2.2.2.2.2) (by simp))
  have hcomp := Try.slices_Compact_string g 0 cap (ss.mergeSort fun x y => decide (x ≤ y)) _ hH2 (by omega) (by have := X.out.2.2.2.2.1; omega)
  rw [hl2] at hcomp
  clear hH2 hsort
  go_wp2_with (go_at_call 95; refine hcomp.mono ?_)
  rintro e w3 ⟨rfl, q, rfl⟩
  go_wp2
  go_ret
  exact leftS_of X.out.1 X.out.2.1 X.out.2.2.1 X.out.2.2.2.2.2.2.1
theorem of_any (b off n c : Nat) (zs : List ByteArray) (w : World) (hz : n ≤ zs.length) (hbig : n * 16 ≤ 140737488355328) (hc : ∀ j, j < zs.length → w.cell? ⟨b, off + j, none⟩ = some (.string (zs.getD j ByteArray.empty))) :
    Calls Try.prog 77 #[.slice (some ⟨b, off, none⟩) n c] w (LeftS w ((zs.take n).map (·.data.toList))) :=
  of_tail n _ _ w (by omega) ((Try.slices_Clone_string b off n c zs w hz hbig hc).mono fun e w' ⟨v', he, hown, hnn, hbel⟩ => ⟨v', he, by rw [Lib.map_encStr]; exact hown, hnn, hbel⟩)
theorem of_zero (a : Addr) (c : Nat) (w : World) : Calls Try.prog 77 #[.slice (some a) 0 c] w (LeftS w []) :=
  of_tail 0 _ [] w (by omega) (Try.slices_Clone_string_zero a c w)
set_option maxHeartbeats 2000000 in
theorem of_nil (w : World) : Calls Try.prog 77 #[.slice none 0 0] w fun e w' => e = .returned (.slice none 0 0) ∧ w' = w := by
  go_enter Try.func77, Try.ntmps77
  go_wp2_with (first
    | (go_at_call 58; refine (Try.slices_Clone_string_nil 0 0 _).mono ?_; rintro e w' ⟨rfl, rfl⟩)
    | (go_at_call 94; refine (Try.slices_Sort_string_none none 0 _).mono ?_; rintro e w' ⟨rfl, rfl⟩)
    | (go_at_call 95; refine (Try.slices_Compact_string_empty none 0 _).mono ?_; rintro e w' ⟨rfl, rfl⟩))
  go_ret
  exact ⟨rfl, rfl⟩
end Go.Proofs.Ytnifldbmflkmpaa

/-
  DERIVED: THE SHELF's CONTRACTS AT THIS DUMP, IN PLAIN WORDS (tools/lay-plain.mjs out of 'TryShelf.lean', which tools/lay-shelf.mjs wrote): THE SAME DECLARATIONS UNDER THE SAME NAMES: 'import', 'namespace', 'open', 'def', 'theorem' AND NOTHING ELSE: no command of the shelf's: FOR A HAND-IN. Each laying: the table of numbers ('.._ren') and one theorem, a field a fact of the dump's own or the kernel's comparison; each contract: ONE APPLICATION.
-/
namespace Go.Proofs
open Go.Shelf
def Try.laysGrow_ren : Go.Shelf.Ren := ⟨fun | 4 => 85 | n => n, fun | 22 => 43 | 25 => 5 | 3 => 3 | 4 => 4 | 9 => 9 | 20 => 20 | 0 => 0 | n => n, fun | n => n⟩
theorem Try.laysGrow : Go.Proofs.Lays8.n4 Try.prog Try.laysGrow_ren := {
  mixed := by kernel_rfl
  f4 := ⟨Try.f85.name, by decide, Try.func85.trans (congrArg some (by kernel_rfl))⟩
  t0 := Try.underlying0
  a0 := Try.isAgg0
  z0 := Try.sizeOf0
  v0 := Try.zeroValue0
  t3 := Try.underlying3
  a3 := Try.isAgg3
  z3 := Try.sizeOf3
  v3 := Try.zeroValue3
  t4 := Try.underlying4
  a4 := Try.isAgg4
  z4 := Try.sizeOf4
  v4 := Try.zeroValue4
  t9 := Try.underlying9
  a9 := Try.isAgg9
  z9 := Try.sizeOf9
  v9 := Try.zeroValue9
  t20 := Try.underlying20
  a20 := Try.isAgg20
  z20 := Try.sizeOf20
  v20 := Try.zeroValue20
  t22 := Try.underlying43
  a22 := Try.isAgg43
  z22 := Try.sizeOf43
  v22 := Try.zeroValue43 }
end Go.Proofs

/-
  slices.Concat of lists of octets: its contract, by a walk over the library's contract for slices.Grow.
-/
namespace Go.Proofs.Ytnifldbmflkmpaa
open Go Go.RowKit Go.Shelf Go.Proofs
set_option linter.unusedVariables false
set_option maxRecDepth 100000
theorem infoB5 : (Try.prog.info? 5).map (fun i => (i.zero, i.size, i.bytes)) = some (some (.int .u8 0), 1, 1) := by kernel_rfl
/-- A slice that holds cells. -/
def Piece (w : World) (v : Value) (xs : List Value) : Prop :=
  (v = .slice none 0 0 ∧ xs = []) ∨ ∃ ad c, v = .slice (some ad) xs.length c ∧ ∀ j u, xs[j]? = some u → w.cell? (ad.add j) = some u
/-- slices.Grow of nil. -/
theorem grow_nil (n : Nat) (w : World) (hn : n ≤ 1099511627776) :
    Calls Try.prog 85 #[.slice none 0 0, .int .i64 n] w fun e w' => ∃ v, e = .returned v ∧ w'.ownsRow w.heap.size 5 1 v 0 [] ∧ Below w.heap.size w w' := by
  obtain ⟨i0, hi, hz0, hz1, hz2⟩ := info_parts infoB5
  by_cases h0 : n = 0
  · subst h0
    refine (Any8.slices_Grow_room Try.laysGrow none 0 0 0 w (by omega) (by omega) (by omega) (by omega)).mono ?_
    rintro e w' ⟨rfl, rfl⟩
    exact ⟨_, rfl, ⟨rfl, .inl ⟨rfl, rfl⟩⟩, Below.refl _ _⟩
  · have hg := Any8.slices_Grow_grow Try.laysGrow i0 (.int .u8 0) hi hz0 (by omega) none 0 0 n [] w (by omega) (by omega) (by rw [hz2]; omega) (by omega) (by simp) (fun _ => rfl) (by intro a h; cases h)
    have e25 : Try.laysGrow_ren.t 25 = 5 := rfl
    simp only [e25, Nat.zero_add] at hg
    refine hg.mono ?_
    rintro e w' ⟨rfl, rfl⟩
    have hge := grownCap_ge w n 0 5
    have hle := grownCap_le_maxLen w n 0 5 (by unfold maxLen; omega)
    have hnew : ∀ o : Obj, (w.drew.alloc o).heap[w.heap.size]? = some o := fun o => by
      show (w.drew.heap.push o)[w.drew.heap.size]? = some o
      exact Array.getElem?_push_size
    refine ⟨_, rfl, ⟨rfl, .inr ⟨w.heap.size, _, _, rfl, Nat.le_refl _, hnew _, by omega, hle, ?_, by simp⟩⟩, ((Below.refl w.heap.size w).drew).alloc (Nat.le_refl _) _⟩
    simp [size_zeroCells, Value.cells]
    omega
set_option maxHeartbeats 4000000 in
theorem concat_walk (b off c : Nat) (vs : List Value) (xss : List (List Value)) (w : World) (hn : vs.length = xss.length) (hn0 : vs.length ≤ 1000) (hT : xss.flatten.length ≤ 1099511627776)
    (hv : ∀ j v, vs[j]? = some v → w.cell? ⟨b, off + j, none⟩ = some v) (hp : ∀ (j : Nat) (v : Value) (xs : List Value), vs[j]? = some v → xss[j]? = some xs → Piece w v xs) (h1 : ∀ xs ∈ xss, ∀ u ∈ xs, u.oneCell' = true) :
    Calls Try.prog 74 #[.slice (some ⟨b, off, none⟩) vs.length c] w fun e w' => ∃ v', e = .returned v' ∧ w'.ownsRow w.heap.size 5 1 v' xss.flatten.length xss.flatten ∧ Below w.heap.size w w' := by
  have hlen : ∀ i, (xss.take i).flatten.length ≤ 1099511627776 := fun i => by
    have : (xss.take i).flatten.length ≤ xss.flatten.length := by
      conv => rhs; rw [← List.take_append_drop i xss, List.flatten_append, List.length_append]
      omega
    omega
  have hstep : ∀ i (h : i < xss.length), (xss.take (i + 1)).flatten = (xss.take i).flatten ++ xss[i] := fun i h => by
    rw [List.take_add_one, List.getElem?_eq_getElem h]
    simp only [Option.toList, List.flatten_append, List.flatten_cons, List.flatten_nil, List.append_nil]
  have HL : Hid (∀ i, (xss.take i).flatten.length ≤ 1099511627776) := hlen
  have HS : Hid (∀ i (h : i < xss.length), (xss.take (i + 1)).flatten = (xss.take i).flatten ++ xss[i]) := hstep
  have HV : Hid (∀ j v, vs[j]? = some v → w.cell? ⟨b, off + j, none⟩ = some v) := hv
  have HP : Hid (∀ (j : Nat) (v : Value) (xs : List Value), vs[j]? = some v → xss[j]? = some xs → Piece w v xs) := hp
  have H1 : Hid (∀ xs ∈ xss, ∀ u ∈ xs, u.oneCell' = true) := h1
  clear hlen hstep hv hp h1
  go_enter Try.func74, Try.ntmps74
  go_wp2
  go_loopw [3, 11] (fun v3 v11 wr => ∃ (i A : Nat), v11 = .int .i64 i ∧ i ≤ vs.length ∧ v3 = .int .i64 (A : Nat) ∧ Hid (A = (xss.take i).flatten.length) ∧ w = wr) (fun _ v11 _ => vs.length - (RowKit.intOf v11).toNat)
  case atStart => exact ⟨0, 0, rfl, by omega, rfl, rfl, rfl⟩
  case round =>
    obtain ⟨i, A, rfl, hi, rfl, hA, rfl⟩ := hrel
    by_cases hc : i < vs.length
    · have hx : i < xss.length := by omega
      have hcell := HV.out i vs[i] (List.getElem?_eq_getElem hc)
      have hp := HP.out i vs[i] xss[i] (List.getElem?_eq_getElem hc) (List.getElem?_eq_getElem hx)
      obtain ⟨m, hm⟩ : ∃ m : Nat, Hid (m = xss[i].length) := ⟨xss[i].length, rfl⟩
      have hA1 : A + m ≤ 1099511627776 ∧ Hid (A + m = (xss.take (i + 1)).flatten.length) := by
        have h := HL.out (i + 1)
        have e : (xss.take (i + 1)).flatten.length = A + m := by rw [HS.out i hx, List.length_append, ← hA.out, ← hm.out]
        rw [e] at h
        exact ⟨h, e.symm⟩
      obtain ⟨hA2, hA3⟩ := hA1
      have hsl : ∃ ad cc, vs[i] = .slice ad m cc := by
        rcases hp with ⟨e, hx0⟩ | ⟨ad, cc, e, _⟩
        · have : m = 0 := by rw [hm.out, hx0]; rfl
          subst this
          exact ⟨none, 0, e⟩
        · exact ⟨some ad, cc, by rw [e, ← hm.out]⟩
      obtain ⟨ad, cc, e⟩ := hsl
      rw [e] at hcell
      clear hp e
      go_wp2
      go_roundw
      case rel => exact ⟨i + 1, A + m, by go_num, by omega, by go_num, hA3, by first | rfl | trivial⟩
      case measure => simp [RowKit.intOf]; omega
    · have hiv : i = vs.length := by omega
      subst hiv
      have hAT : A ≤ 1099511627776 := by rw [hA.out]; exact HL.out _
      have HA : Hid (A = xss.flatten.length) := by
        have := hA.out
        rw [List.take_of_length_le (by omega)] at this
        exact this
      go_wp2_with (go_at_call 85; refine (grow_nil A _ hAT).mono ?_)
      rintro e w1 ⟨v1, rfl, hown1, hb1⟩
      have HO : Hid (w1.ownsRow w.heap.size 5 1 v1 0 []) := hown1
      clear hown1
      go_wp2
      obtain ⟨i0, hi0, hz0, hz1, hz2⟩ := info_parts infoB5
      go_loopw [6, 27] (fun v6 v27 w2 => ∃ (j A : Nat), v27 = .int .i64 j ∧ j ≤ vs.length ∧ Hid (A = (xss.take j).flatten.length) ∧ Hid (w2.ownsRow w.heap.size 5 1 v6 A (xss.take j).flatten) ∧ Below w.heap.size w w2) (fun _ v27 _ => vs.length - (RowKit.intOf v27).toNat)
      case atStart => exact ⟨0, 0, rfl, by omega, rfl, HO, hb1⟩
      case round =>
        obtain ⟨j, A2, rfl, hj, hA2, hO2, hb2⟩ := hrel
        by_cases hc2 : j < vs.length
        · have hx : j < xss.length := by omega
          have hcellw := HV.out j vs[j] (List.getElem?_eq_getElem hc2)
          have hcell := hcellw
          rw [← hb2.cell (p := ⟨b, off + j, none⟩) (World.block_lt_of_cell? w _ hcellw)] at hcell
          have hp := HP.out j vs[j] xss[j] (List.getElem?_eq_getElem hc2) (List.getElem?_eq_getElem hx)
          have hA1 : A2 + xss[j].length ≤ 1099511627776 := by
            have h := HL.out (j + 1)
            rw [HS.out j hx, List.length_append, ← hA2.out] at h
            exact h
          have hA3 : Hid (A2 + xss[j].length = (xss.take (j + 1)).flatten.length) := by
            have : (xss.take (j + 1)).flatten.length = A2 + xss[j].length := by rw [HS.out j hx, List.length_append, ← hA2.out]
            exact this.symm
          have hwb : w.heap.size ≤ wr.heap.size := hb2.size
          rcases hp with ⟨e, hx0⟩ | ⟨ad, cc, e, hnews⟩
          · rw [e] at hcell
            clear hcellw
            go_wp2_with (at_builtin; refine wpList_append_own_none rfl _ _ 43 rfl w.heap.size 5 i0 1 Try.underlying43 hi0 _ _ _ rfl hO2.out rfl ?_)
            go_wp2
            go_roundw
            case rel =>
              refine ⟨j + 1, A2, by go_num, by omega, ?_, ?_, hb2⟩
              · have := hA3.out; rw [hx0] at this; exact this
              · have := HS.out j hx
                rw [hx0, List.append_nil] at this
                rw [this]
                exact hO2
            case measure => simp [RowKit.intOf]; omega
          · rw [e] at hcell
            have hnews2 : Hid (∀ (t : Nat) (u : Value), xss[j][t]? = some u → wr.cell? (ad.add t) = some u) := fun t u hu => by
              have h := hnews t u hu
              rw [hb2.cell (p := ad.add t) (World.block_lt_of_cell? w _ h)]
              exact h
            have h1 : Hid (∀ u ∈ xss[j], u.oneCell' = true) := H1.out xss[j] (List.getElem_mem hx)
            obtain ⟨news, hnw⟩ : ∃ news, Hid (news = xss[j]) := ⟨xss[j], rfl⟩
            have hnw' := hnw.out
            rw [← hnw'] at hnews2 h1 hA1 hA3 hcell
            clear hnews hcellw e hnw'
            go_wp2_with (at_builtin; refine wpList_append_own _ rfl _ _ 43 rfl w.heap.size 5 i0 (.int .u8 0) 1 1 Try.underlying43 hi0 hz0 hz1 hz2 rfl (by decide) _ _ _ rfl hO2.out ad news.length cc news rfl (by omega) hnews2.out h1.out ?c1 ?c2 ?c3 ?_)
            case c1 => unfold maxLen; omega
            case c2 => omega
            case c3 => exact hwb
            intro v' w3 hown' hgrow _
            have HO3 : Hid (w3.ownsRow w.heap.size 5 1 v' (A2 + news.length) ((xss.take (j + 1)).flatten)) := by
              have := HS.out j hx
              rw [← hnw.out] at this
              rw [this]
              exact hown'
            have hb3 : Below w.heap.size w w3 := hb2.grown hgrow hwb (fun k hk => (hO2.out.lt k hk).1)
            clear hown' hgrow
            go_wp2
            go_roundw
            case rel => exact ⟨j + 1, A2 + news.length, by go_num, by omega, hA3, HO3, hb3⟩
            case measure => simp [RowKit.intOf]; omega
        · have hjv : j = vs.length := by omega
          subst hjv
          have HF : Hid (wr.ownsRow w.heap.size 5 1 u6 xss.flatten.length xss.flatten) := by
            have h := hO2.out
            rw [hA2.out, List.take_of_length_le (by omega)] at h
            exact h
          go_wp2
          go_ret
          exact ⟨_, rfl, HF.out, hb2⟩
end Go.Proofs.Ytnifldbmflkmpaa

/-
  What the kernel looks through: the configuration is sound; arguments of the laws.
-/
namespace Go.Proofs.Ytnifldbmflkmpaa
open Go Ev Go.RowKit Go.ChangeShapes Go.WideShapes
set_option linter.unusedVariables false
set_option linter.unusedSimpArgs false
set_option maxRecDepth 100000
/-- slices.Clone by itself. -/
noncomputable def cfgC : Cfg where
  P := Try.prog
  mode := fun f => if f = 58 ∨ f = 64 then .impure else .no
  prim := fun _ => none
@[simp] theorem cfgCP : cfgC.P = Try.prog := rfl
theorem cfgC_in : ∀ f, cfgC.mode f ≠ .no → f ∈ [58, 64] := by
  intro f hf
  by_cases h : f = 58 ∨ f = 64
  · rcases h with rfl | rfl <;> simp
  · simp [cfgC, h] at hf
theorem cfgC_fns : fnsOk cfgC [58, 64] = true := by kernel_rfl
theorem cfgC_bodies : BodiesOk cfgC := bodiesOk_of cfgC_fns cfgC_in
theorem cfgC_ok : CfgOk cfgC := cfgOk_of (primSpec_none fun _ => rfl) cfgC_fns cfgC_in
theorem mixed : Try.prog.follows .mixedOrders = true := Checked.mixed Try.checked
theorem clone_nil : ∃ k v0 h d, evalF cfgC k 58 [.nils] [] = some (v0, h, d) ∧ v0.strip = .L [] := by
  refine run_of_body (by decide) Try.func58 rfl ?_
  refine Ev.seq (Ev.region ?_)
  apply EvOps.run
  · intro call; simp [Try.f58]; exact rfl
  refine Ev.seq (Ev.seq (Ev.region ?_))
  apply EvOps.run
  · intro call; simp; exact rfl
  refine Ev.cond true (by simp) (fun _ => ?_) (fun h => by simp at h)
  refine Ev.seq (Ev.region ?_)
  apply EvOps.run
  · intro call; simp; exact rfl
  exact Ev.ret ⟨.nils, by simp [Try.f58], by simp⟩
theorem clone_list (xs : List AV) (hh : headOk 1 xs = true) (hb : xs.length ≤ 68719476736) : ∃ k v0 h d, evalF cfgC k 58 [.list xs true none none] [] = some (v0, h, d) ∧ v0.strip = .L (stripL xs) := by
  refine run_of_body (by decide) Try.func58 rfl ?_
  refine Ev.seq (Ev.region ?_)
  apply EvOps.run
  · intro call; simp [Try.f58]; exact rfl
  refine Ev.seq (Ev.seq (Ev.region ?_))
  apply EvOps.run
  · intro call; simp; exact rfl
  refine Ev.cond false (by simp) (fun h => by simp at h) (fun _ => Ev.skip ?_)
  refine Ev.seq (Ev.region (EvOps.take 2 ?_))
  apply EvOps.run
  · intro call; simp [buildSliceA]; exact rfl
  refine EvOps.append (x := .list [] true (some 0) none) (y := .list xs true none none) rfl rfl (by simp) (by simp) Try.underlying24 Try.underlying24 rfl Ty.s9 Ty.b9 Ty.z9 rfl (xs := []) (.inr (.inr ⟨true, rfl⟩)) (by simp) (ys := xs) (by simp [elemsA, hh]) (by simp only [List.length_nil]; omega) ?_
  intro out h1 hg _
  apply EvOps.run
  · intro call; simp; exact rfl
  exact Ev.ret ⟨out, by simp [Try.f58], by rw [hg.strip, List.nil_append]⟩
theorem cloneR_nil : ∃ k v0 h d, evalF cfgC k 64 [.nils] [] = some (v0, h, d) ∧ v0.strip = .L [] := by
  refine run_of_body (by decide) Try.func64 rfl ?_
  refine Ev.seq (Ev.region ?_)
  apply EvOps.run
  · intro call; simp [Try.f64]; exact rfl
  refine Ev.seq (Ev.seq (Ev.region ?_))
  apply EvOps.run
  · intro call; simp; exact rfl
  refine Ev.cond true (by simp) (fun _ => ?_) (fun h => by simp at h)
  refine Ev.seq (Ev.region ?_)
  apply EvOps.run
  · intro call; simp; exact rfl
  exact Ev.ret ⟨.nils, by simp [Try.f64], by simp⟩
theorem cloneR_list (xs : List AV) (hh : headOk 4 xs = true) (hb : xs.length ≤ 68719476736) : ∃ k v0 h d, evalF cfgC k 64 [.list xs true none none] [] = some (v0, h, d) ∧ v0.strip = .L (stripL xs) := by
  refine run_of_body (by decide) Try.func64 rfl ?_
  refine Ev.seq (Ev.region ?_)
  apply EvOps.run
  · intro call; simp [Try.f64]; exact rfl
  refine Ev.seq (Ev.seq (Ev.region ?_))
  apply EvOps.run
  · intro call; simp; exact rfl
  refine Ev.cond false (by simp) (fun h => by simp at h) (fun _ => Ev.skip ?_)
  refine Ev.seq (Ev.region (EvOps.take 2 ?_))
  apply EvOps.run
  · intro call; simp [buildSliceA]; exact rfl
  refine EvOps.append (x := .list [] true (some 0) none) (y := .list xs true none none) rfl rfl (by simp) (by simp) Try.underlying38 Try.underlying38 rfl Ty.s40 Ty.b40 Ty.z40 rfl (xs := []) (.inr (.inr ⟨true, rfl⟩)) (by simp) (ys := xs) (by simp [elemsA, hh]) (by simp only [List.length_nil]; omega) ?_
  intro out h1 hg _
  apply EvOps.run
  · intro call; simp; exact rfl
  exact Ev.ret ⟨out, by simp [Try.f64], by rw [hg.strip, List.nil_append]⟩
theorem fns : fnsOk cfg (pures ++ impures) = true := by kernel_rfl
theorem cfg_in : ∀ f, cfg.mode f ≠ .no → f ∈ pures ++ impures := by
  intro f hf
  by_cases h : pures.contains f = true
  · simp only [List.mem_append]; exact .inl (by simpa using h)
  · by_cases h' : impures.contains f = true
    · simp only [List.mem_append]; exact .inr (by simpa using h')
    · simp only [cfg, h, h'] at hf; simp at hf
/-- internal/bytealg.IndexByteString: its contract. -/
theorem idx_spec {vs : List AV} {v : AV} (hv : idxA vs = some v) {m : M} {w : World} {us : Array Value} (hi : Inv m [] w) (hr : VRelL m vs us.toList) :
    Res Try.prog ((callFunc 103 us).run Try.prog w) (fun u w' => ∃ m', Step w.heap.size m [] w m' [] w' ∧ VRel m' v u) := by
  unfold idxA at hv
  split at hv
  · rename_i s c
    simp only [Option.some.injEq] at hv
    subst hv
    simp only [VRelL, VRel] at hr
    obtain ⟨u1, r1, e1, ⟨b, rfl, hb⟩, u2, r2, rfl, rfl, rfl⟩ := hr
    have hus : us = #[.string b, .int .u8 c] := by rw [← Array.toList_inj]; exact e1
    subst hus
    rw [run_callFunc_extern Try.func103 (by kernel_rfl) (by kernel_rfl) (by kernel_rfl) (e := Extern.BytealgIndexByte.indexByte) (by kernel_rfl), Lib.run_indexByteString]
    simp only [Result.andThen, Res]
    exact ⟨m, Step.refl hi, by simp only [VRel, hb]⟩
  · cases hv
/-- glob.Quote: its contract. -/
theorem quote_spec {vs : List AV} {v : AV} (hv : quoteA vs = some v) {m : M} {w : World} {us : Array Value} (hi : Inv m [] w) (hr : VRelL m vs us.toList) :
    Res Try.prog ((callFunc 38 us).run Try.prog w) (fun u w' => ∃ m', Step w.heap.size m [] w m' [] w' ∧ VRel m' v u) := by
  unfold quoteA at hv
  split at hv
  · rename_i s
    split at hv
    · rename_i hs
      simp only [Option.some.injEq] at hv
      subst hv
      simp only [VRelL, VRel] at hr
      obtain ⟨u1, r1, e1, ⟨b, rfl, hb⟩, rfl⟩ := hr
      have hus : us = #[.string b] := by rw [← Array.toList_inj]; exact e1
      subst hus
      have hsz : b.size ≤ 1000 := by have : b.data.toList.length = b.size := by simp
                                     rw [hb] at this; omega
      refine res_enter (enters_of Try.func38 (by kernel_rfl) rfl) ((quote_walk b w hsz).mono ?_)
      rintro e w' ⟨rfl, hbw⟩
      exact ⟨_, rfl, m, Step.below hi hbw, by simp only [VRel]; exact ⟨_, rfl, by rw [hb]⟩⟩
    · cases hv
  · cases hv
theorem vrel_strs (m : M) : ∀ ss : List S, VRelL m (ss.map .str) (ss.map encStr)
  | [] => by simp only [List.map_nil, VRelL]
  | s :: ss => by
    simp only [List.map_cons, VRelL]
    exact ⟨_, _, rfl, by simp only [VRel]; exact ⟨_, rfl, rfl⟩, vrel_strs m ss⟩
theorem strs_vrel {m : M} : ∀ {ss : List S} {cvs : List Value}, VRelL m (ss.map .str) cvs → ∃ zs : List ByteArray, cvs = zs.map .string ∧ zs.map (·.data.toList) = ss
  | [], cvs, h => by simp only [List.map_nil, VRelL] at h; subst h; exact ⟨[], rfl, rfl⟩
  | s :: ss, cvs, h => by
    simp only [List.map_cons, VRelL] at h
    obtain ⟨v, vs, rfl, hv, h⟩ := h
    simp only [VRel] at hv
    obtain ⟨b, rfl, hb⟩ := hv
    obtain ⟨zs, rfl, h2⟩ := strs_vrel h
    exact ⟨b :: zs, rfl, by rw [List.map_cons, hb, h2]⟩
/-- set.of: its contract. -/
theorem of_spec {vs : List AV} {v : AV} (hv : ofA vs = some v) {m : M} {w : World} {us : Array Value} (hi : Inv m [] w) (hr : VRelL m vs us.toList) :
    Res Try.prog ((callFunc 77 us).run Try.prog w) (fun u w' => ∃ m', Step w.heap.size m [] w m' [] w' ∧ VRel m' v u) := by
  unfold ofA at hv
  split at hv
  · rename_i xs nn cap tok
    cases hss : strsOf? xs with
    | none => rw [hss] at hv; simp at hv
    | some ss =>
      rw [hss] at hv
      simp only [Option.bind_some] at hv
      split at hv
      · rename_i hlen
        simp only [Option.some.injEq] at hv
        subst hv
        have hxs := strsOf_eq hss
        subst hxs
        simp only [VRelL] at hr
        obtain ⟨u, r, e1, hu, rfl⟩ := hr
        have hus : us = #[u] := by rw [← Array.toList_inj]; exact e1
        subst hus
        refine res_enter (enters_of Try.func77 (by kernel_rfl) rfl) ?_
        have fin : ∀ e w', LeftS w ss e w' → ∃ v, e = .returned v ∧ ∃ m', Step w.heap.size m [] w m' [] w' ∧ VRel m' (strs (srt ss)) v := by
          rintro e w' ⟨v, rfl, ho, hb⟩
          obtain ⟨m', s, h⟩ := Step.row hi hb ho (by intro c hc; obtain ⟨x, _, rfl⟩ := List.mem_map.1 hc; rfl) (xs := (srt ss).map .str) (vrel_strs m _)
          exact ⟨v, rfl, m', s, h⟩
        simp only [VRel] at hu
        rcases hu with ⟨hx, _, _, _, rfl⟩ | ⟨a, cap', cvs, sz, rfl, hsp, hlc, hrl, hsz, hcf, _, _⟩
        · have hs0 : ss = [] := by simpa using hx
          subst hs0
          refine (of_nil w).mono ?_
          rintro e w' ⟨rfl, rfl⟩
          have h0 : srt [] = [] := by simp [srt, Lib.compact, Lib.compactUpTo]
          exact ⟨_, rfl, m, Step.refl hi, by rw [h0]; simp [strs, VRel]⟩
        · obtain ⟨zs, rfl, hzs⟩ := strs_vrel hrl
          have hzl : zs.length = ss.length := by rw [← hzs, List.length_map]
          by_cases hn : ss.length = 0
          · have hs0 : ss = [] := List.eq_nil_of_length_eq_zero hn
            subst hs0
            exact (of_zero a cap' w).mono fin
          · have hc0 : cap' ≠ 0 := by simp at hlc; omega
            obtain ⟨b, off, sp⟩ := a
            have hsp0 := hsp hc0
            simp only at hsp0
            subst hsp0
            have hfl : (zs.map Value.string).flatMap VCells = zs.map Value.string := by
              clear hcf hrl hzl hzs hsz
              induction zs with
              | nil => rfl
              | cons z l ih => rw [List.map_cons, List.flatMap_cons, ih]; rfl
            rw [hfl] at hcf
            have hcell : ∀ j, j < zs.length → w.cell? ⟨b, off + j, none⟩ = some (.string (zs.getD j ByteArray.empty)) := by
              intro j hj
              have := hcf j (.string zs[j]) (by simp [hj])
              have := hi.f _ _ this
              simp only [List.getD, List.getElem?_eq_getElem hj, Option.getD_some]
              exact this
            have hcall := of_any b off ss.length cap' zs w (by omega) (by omega) hcell
            rw [List.take_of_length_le (by omega), hzs] at hcall
            rw [List.length_map]
            exact hcall.mono fin
      · cases hv
  · cases hv
theorem byte_cells {m : M} : ∀ {ys : List AV} {zs : List Value}, ys.all isByteA = true → VRelL m ys zs → (∀ u ∈ zs, u.oneCell' = true) ∧ zs.flatMap VCells = zs
  | [], zs, _, h => by simp only [VRelL] at h; subst h; exact ⟨by simp, rfl⟩
  | y :: ys, zs, hb, h => by
    simp only [VRelL] at h
    obtain ⟨v, vs, rfl, hv, h⟩ := h
    simp only [List.all_cons, Bool.and_eq_true] at hb
    obtain ⟨i1, i2⟩ := byte_cells hb.2 h
    have hv1 : ∃ n, v = .int .u8 n := by
      cases y with
      | int k n =>
        cases k <;> simp only [isByteA, Bool.false_eq_true, false_and] at hb
        simp only [VRel] at hv
        exact ⟨n, hv⟩
      | _ => simp only [isByteA, Bool.false_eq_true, false_and] at hb
    obtain ⟨n, rfl⟩ := hv1
    refine ⟨fun u hu => ?_, by rw [List.flatMap_cons, i2]; rfl⟩
    simp only [List.mem_cons] at hu
    rcases hu with rfl | hu
    · rfl
    · exact i1 u hu
theorem vrelL_append {m : M} : ∀ {a b : List AV} {c d : List Value}, VRelL m a c → VRelL m b d → VRelL m (a ++ b) (c ++ d)
  | [], b, c, d, h, k => by simp only [VRelL] at h; subst h; exact k
  | x :: a, b, c, d, h, k => by
    simp only [VRelL] at h
    obtain ⟨v, vs, rfl, hv, h⟩ := h
    simp only [List.cons_append, VRelL]
    exact ⟨v, vs ++ d, rfl, hv, vrelL_append h k⟩
theorem pieces {m : M} {w : World} (hi : Inv m [] w) : ∀ {xs : List AV} {yss : List (List AV)} {cvs : List Value}, listsOf? xs = some yss → VRelL m xs cvs →
    ∃ xss : List (List Value), cvs.length = xss.length ∧ (∀ (j : Nat) (v : Value) (zs : List Value), cvs[j]? = some v → xss[j]? = some zs → Piece w v zs) ∧ VRelL m yss.flatten xss.flatten ∧ (∀ zs ∈ xss, ∀ u ∈ zs, u.oneCell' = true) ∧ cvs.flatMap VCells = cvs
  | [], yss, cvs, h, hr => by
    simp only [listsOf?, Option.some.injEq] at h
    simp only [VRelL] at hr
    subst h; subst hr
    exact ⟨[], rfl, by simp, by simp [VRelL], by simp, rfl⟩
  | x :: xs, yss, cvs, h, hr => by
    unfold listsOf? at h
    split at h
    · rename_i e; cases e
    · rename_i ys nn cap tok r e
      cases e
      split at h
      · rename_i hb
        obtain ⟨t, h1, rfl⟩ := Option.map_eq_some_iff.1 h
        simp only [VRelL] at hr
        obtain ⟨v, vs, rfl, hv, hr⟩ := hr
        obtain ⟨xss, i1, i2, i3, i4, i5⟩ := pieces hi h1 hr
        have hvv : ∃ zs, Piece w v zs ∧ VRelL m ys zs ∧ (∀ u ∈ zs, u.oneCell' = true) ∧ VCells v = [v] := by
          simp only [VRel] at hv
          rcases hv with ⟨rfl, _, _, _, rfl⟩ | ⟨a, cap', zs, sz, rfl, hsp, hlc, hrl, hsz, hcf, _, _⟩
          · exact ⟨[], .inl ⟨rfl, rfl⟩, by simp only [VRelL], by simp, rfl⟩
          · obtain ⟨o1, o2⟩ := byte_cells hb hrl
            rw [o2] at hcf
            have hl := hrl.length
            refine ⟨zs, .inr ⟨a, cap', by rw [hl], fun j u hu => ?_⟩, hrl, o1, rfl⟩
            have hj := (List.getElem?_eq_some_iff.1 hu).1
            have hs : a.spot = none := hsp (by omega)
            have := hi.f _ _ (hcf j u hu)
            rw [Addr.add_none a hs]
            exact this
        obtain ⟨zs, p1, p2, p3, p4⟩ := hvv
        refine ⟨zs :: xss, by simp [i1], fun j v' zs' hj hz => ?_, ?_, ?_, by rw [List.flatMap_cons, i5, p4]; rfl⟩
        · cases j with
          | zero => simp at hj hz; subst hj; subst hz; exact p1
          | succ j => exact i2 j v' zs' (by simpa using hj) (by simpa using hz)
        · rw [List.flatten_cons, List.flatten_cons]; exact vrelL_append p2 i3
        · intro z hz
          simp only [List.mem_cons] at hz
          rcases hz with rfl | hz
          · exact p3
          · exact i4 z hz
      · cases h
    · cases h
/-- slices.Concat of lists of octets: its contract. -/
theorem concat_spec {vs : List AV} {v : AV} (hv : concatA vs = some v) {m : M} {w : World} {us : Array Value} (hi : Inv m [] w) (hr : VRelL m vs us.toList) :
    Res Try.prog ((callFunc 74 us).run Try.prog w) (fun u w' => ∃ m', Step w.heap.size m [] w m' [] w' ∧ VRel m' v u) := by
  unfold concatA at hv
  split at hv
  · rename_i xs nn cap tok
    cases hyss : listsOf? xs with
    | none => rw [hyss] at hv; simp at hv
    | some yss =>
      rw [hyss] at hv
      simp only [Option.bind_some] at hv
      split at hv
      · rename_i hc
        obtain ⟨hne, hlen, hT⟩ := hc
        simp only [Option.some.injEq] at hv
        subst hv
        simp only [VRelL] at hr
        obtain ⟨u, r, e1, hu, rfl⟩ := hr
        have hus : us = #[u] := by rw [← Array.toList_inj]; exact e1
        subst hus
        refine res_enter (enters_of Try.func74 (by kernel_rfl) rfl) ?_
        simp only [VRel] at hu
        rcases hu with ⟨hx, _, _, _, rfl⟩ | ⟨a, cap', cvs, sz, rfl, hsp, hlc, hrl, hsz, hcf, _, _⟩
        · exact (hne hx).elim
        · obtain ⟨xss, p1, p2, p3, p4, p5⟩ := pieces hi hyss hrl
          have hxl := hrl.length
          have hpos : 0 < xs.length := by cases xs with | nil => exact (hne rfl).elim | cons _ _ => simp
          have hs : a.spot = none := hsp (by omega)
          obtain ⟨b, off, sp⟩ := a
          simp only at hs
          subst hs
          rw [p5] at hcf
          have hfl := p3.length
          rw [← hxl]
          refine (concat_walk b off cap' cvs xss w p1 (by omega) (by omega) (fun j v' hj => hi.f _ _ (hcf j v' hj)) p2 p4).mono ?_
          rintro e w' ⟨v', rfl, ho, hb⟩
          obtain ⟨m', s, h⟩ := Step.row hi hb ho (by intro c hc; obtain ⟨zs, h1, h2⟩ := List.mem_flatten.1 hc; exact p4 zs h1 c h2) p3
          exact ⟨v', rfl, m', s, h⟩
      · cases hv
  · cases hv
theorem cfg_prim : PrimSpec cfg := by
  intro g p hp vs v hcl hv hvc m w us hi hr
  by_cases hg : g = 58
  · subst hg
    have : p = cloneA 1 := by simp [cfg] at hp; exact hp.symm
    subst this
    unfold cloneA at hv
    split at hv
    · rename_i xs nn cap tok
      split at hv
      · rename_i hc
        simp only [Option.some.injEq] at hv
        subst hv
        simp only [cleanL_cons, cleanL_nil, Bool.and_true] at hcl
        have hx : cleanL 0 xs = true := by simp only [AV.clean, Bool.and_eq_true] at hcl; exact hcl.1
        exact res_of_two (C1 := cfgC) cfgC_ok cfgC_bodies mixed (by decide) hvc hx (fun e => by subst e; simpa using clone_nil) (clone_list xs hc.1 hc.2) hi hr
      · cases hv
    · cases hv
  · by_cases hg' : g = 64
    · subst hg'
      have : p = cloneA 4 := by simp [cfg] at hp; exact hp.symm
      subst this
      unfold cloneA at hv
      split at hv
      · rename_i xs nn cap tok
        split at hv
        · rename_i hc
          simp only [Option.some.injEq] at hv
          subst hv
          simp only [cleanL_cons, cleanL_nil, Bool.and_true] at hcl
          have hx : cleanL 0 xs = true := by simp only [AV.clean, Bool.and_eq_true] at hcl; exact hcl.1
          exact res_of_two (C1 := cfgC) cfgC_ok cfgC_bodies mixed (by decide) hvc hx (fun e => by subst e; simpa using cloneR_nil) (cloneR_list xs hc.1 hc.2) hi hr
        · cases hv
      · cases hv
    · by_cases hg2 : g = 103
      · subst hg2
        have : p = idxA := by simp [cfg] at hp; exact hp.symm
        subst this
        exact idx_spec hv hi hr
      · by_cases hg3 : g = 38
        · subst hg3
          have : p = quoteA := by simp [cfg] at hp; exact hp.symm
          subst this
          exact quote_spec hv hi hr
        · by_cases hg4 : g = 77
          · subst hg4
            have : p = ofA := by simp [cfg] at hp; exact hp.symm
            subst this
            exact of_spec hv hi hr
          · by_cases hg5 : g = 74
            · subst hg5
              have : p = concatA := by simp [cfg] at hp; exact hp.symm
              subst this
              exact concat_spec hv hi hr
            · simp [cfg, hg, hg', hg2, hg3, hg4, hg5] at hp
theorem bodies : BodiesOk cfg := bodiesOk_of fns cfg_in
theorem cfg_ok : CfgOk cfg := cfgOk_of cfg_prim fns cfg_in
theorem own : ownKnob Try.prog.godebug = none := by kernel_rfl
theorem laid : laidOutB Try.prog = true := by kernel_rfl
/-- A law of this seat whose parameters are lists of texts. -/
def tys : List Nat := [3, 9, 24, 22, 40, 38, 5, 43]
theorem tys_ok : tysOk Try.prog tys = true := by kernel_rfl
theorem str_of {n : Nat} {y : AV} (h : isOf Try.prog (has Try.prog n) 9 y) : ∃ s : S, y = .str s ∧ s.length ≤ maxLen := by
  rcases h with ⟨h, _⟩ | ⟨_, h⟩
  · simp at h
  cases n with
  | zero => exact h.elim
  | succ n =>
    simp only [has, Try.underlying9] at h
    obtain ⟨s, e, hs⟩ := h
    simp only [List.cons.injEq, and_true] at e
    exact ⟨s, e, hs⟩
theorem int_of {n : Nat} {y : AV} (h : isOf Try.prog (has Try.prog n) 3 y) : ∃ i : Int, y = .int .i64 i ∧ (Lit.int .i64 i).wf = true := by
  rcases h with ⟨h, _⟩ | ⟨_, h⟩
  · simp at h
  cases n with
  | zero => exact h.elim
  | succ n =>
    simp only [has, Try.underlying3] at h
    obtain ⟨s, e, hs⟩ := h
    simp only [List.cons.injEq, and_true] at e
    exact ⟨s, e, hs⟩
theorem strs_of {n : Nat} {y : AV} (h : isOf Try.prog (has Try.prog n) 24 y) : ∃ ss : List S, y = strs ss ∧ ss.length ≤ maxLen ∧ ∀ s ∈ ss, s.length ≤ maxLen := by
  rcases h with ⟨h, _⟩ | ⟨_, h⟩
  · simp at h
  cases n with
  | zero => exact h.elim
  | succ n =>
    simp only [has, Try.underlying24] at h
    obtain ⟨ys, e, hl, hy⟩ := h
    simp only [List.cons.injEq, and_true] at e
    have key : ∀ l : List AV, (∀ y ∈ l, isOf Try.prog (has Try.prog n) 9 y) → ∃ ss : List S, l = ss.map .str ∧ ∀ s ∈ ss, s.length ≤ maxLen := by
      intro l
      induction l with
      | nil => intro _; exact ⟨[], rfl, by simp⟩
      | cons a l ih =>
        intro h
        obtain ⟨ss, e1, e2⟩ := ih fun y hy => h y (List.mem_cons_of_mem _ hy)
        rcases h a (by simp) with ⟨h, _⟩ | ⟨_, h⟩
        · simp at h
        cases n with
        | zero => exact h.elim
        | succ n =>
          simp only [has, Try.underlying9] at h
          obtain ⟨s, e3, e4⟩ := h
          simp only [List.cons.injEq, and_true] at e3
          subst e3
          exact ⟨s :: ss, by simp [e1], by simpa using ⟨e4, e2⟩⟩
    obtain ⟨ss, e1, e2⟩ := key ys hy
    subst e1
    exact ⟨ss, e, by simpa using hl, e2⟩
end Go.Proofs.Ytnifldbmflkmpaa

/-
  Arguments of the laws: lists of lists of texts, octets.
-/
namespace Go.Proofs.Ytnifldbmflkmpaa
open Go Ev Go.RowKit Go.ChangeShapes Go.WideShapes
set_option linter.unusedVariables false
set_option linter.unusedSimpArgs false
set_option maxRecDepth 100000
theorem strss_of {n : Nat} {y : AV} (h : isOf Try.prog (has Try.prog n) 22 y) : ∃ ll : List (List S), y = strss ll ∧ True ∧ True := by
  rcases h with ⟨h, _⟩ | ⟨_, h⟩
  · simp at h
  cases n with
  | zero => exact h.elim
  | succ n =>
    simp only [has, Try.underlying22] at h
    obtain ⟨ys, e, hl, hy⟩ := h
    simp only [List.cons.injEq, and_true] at e
    have key : ∀ l : List AV, (∀ y ∈ l, isOf Try.prog (has Try.prog n) 24 y) → ∃ ll : List (List S), l = ll.map strs := by
      intro l
      induction l with
      | nil => intro _; exact ⟨[], rfl⟩
      | cons a l ih =>
        intro h
        obtain ⟨ll, e1⟩ := ih fun y hy => h y (List.mem_cons_of_mem _ hy)
        obtain ⟨s, e2, _⟩ := strs_of (h a (by simp))
        exact ⟨s :: ll, by rw [e1, e2]; rfl⟩
    obtain ⟨ll, e1⟩ := key ys hy
    subst e1
    exact ⟨ll, e, trivial, trivial⟩
theorem byte_of {n : Nat} {y : AV} (h : isOf Try.prog (has Try.prog n) 5 y) : ∃ b : UInt8, y = .int .u8 (b.toNat : Int) := by
  rcases h with ⟨h, _⟩ | ⟨_, h⟩
  · simp at h
  cases n with
  | zero => exact h.elim
  | succ n =>
    simp only [has, Try.underlying5] at h
    obtain ⟨i, e, hw⟩ := h
    simp only [List.cons.injEq, and_true] at e
    subst e
    simp [Lit.wf, IntKind.wrap, IntKind.min, IntKind.max, IntKind.signed, IntKind.bits] at hw
    refine ⟨UInt8.ofNat i.toNat, ?_⟩
    simp only [AV.int.injEq, true_and]
    rw [UInt8.toNat_ofNat']
    omega
theorem bytes_of {n : Nat} {y : AV} (h : isOf Try.prog (has Try.prog n) 43 y) : ∃ s : S, y = .L (ofBytes s) ∧ True := by
  rcases h with ⟨h, _⟩ | ⟨_, h⟩
  · simp at h
  cases n with
  | zero => exact h.elim
  | succ n =>
    simp only [has, Try.underlying43] at h
    obtain ⟨ys, e, hl, hy⟩ := h
    simp only [List.cons.injEq, and_true] at e
    have key : ∀ l : List AV, (∀ y ∈ l, isOf Try.prog (has Try.prog n) 5 y) → ∃ s : S, l = ofBytes s := by
      intro l
      induction l with
      | nil => intro _; exact ⟨[], rfl⟩
      | cons a l ih =>
        intro h
        obtain ⟨s, e1⟩ := ih fun y hy => h y (List.mem_cons_of_mem _ hy)
        obtain ⟨b, e2⟩ := byte_of (h a (by simp))
        exact ⟨b :: s, by rw [e1, e2]; rfl⟩
    obtain ⟨s, e1⟩ := key ys hy
    subst e1
    exact ⟨s, e, trivial⟩
end Go.Proofs.Ytnifldbmflkmpaa
