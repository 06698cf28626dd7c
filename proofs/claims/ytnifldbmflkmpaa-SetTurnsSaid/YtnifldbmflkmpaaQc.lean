/-
  set.of: its contract, by a walk over the library's contracts for slices.Clone, Sort, Compact.
-/
import Derived.Test.YtnifldbmflkmpaaShelfS
import Derived.Test.YtnifldbmflkmpaaSg
import Derived.WalkKit
import Derived.BigCall
import Derived.Sort.OwnSorted
import Derived.Sort.Grow
import Derived.Lib.OwnBridge
namespace Go.Proofs.Ytnifldbmflkmpaa
open Go Go.RowKit Go.Shelf Go.Sort Go.Proofs
set_option linter.unusedVariables false
/-- What the walk leaves. -/
def LeftS (w : World) (ss : List (List UInt8)) (e : Ending) (w' : World) : Prop :=
  ∃ v, e = .returned v ∧ w'.ownsRow w.heap.size 9 1 v (srt ss).length ((srt ss).map encStr) ∧ Below w.heap.size w w'
theorem leftS_of {w w1 : World} {g cap n nn q : Nat} {os : Array Obj} {ss : List (List UInt8)} (hown : w1.ownsRow w.heap.size 9 1 (.slice (some ⟨g, 0, none⟩) n cap) n (ss.map encStr)) (hbel : Below w.heap.size w w1) (hbg : w.heap.size ≤ g) (hlen : ss.length = n) :
    LeftS w ss (.returned (.slice (some ⟨g, 0, none⟩) (Lib.compact (ss.mergeSort fun x y => decide (x ≤ y))).length cap))
      (putRow encStr (Sort.ahead (grow (putRow encStr (Sort.ahead w1 nn) g 0 (ss.mergeSort fun x y => decide (x ≤ y)).toArray) os) q) g 0 (Lib.compact (ss.mergeSort fun x y => decide (x ≤ y)) ++ List.replicate (n - (Lib.compact (ss.mergeSort fun x y => decide (x ≤ y))).length) []).toArray) := by
  have hl2 : (ss.mergeSort fun x y => decide (x ≤ y)).length = ss.length := List.length_mergeSort ss
  have hle := Lib.compact_length_le (ss.mergeSort fun x y => decide (x ≤ y))
  subst hlen
  rcases hown.2 with ⟨h0, _⟩ | ⟨g', cap', cur, hv, hbase, hb, h1, h2, h3, h4⟩
  · cases h0
  cases hv
  have hs := ownsRow_sorted (n := nn) (os := os) (ts := ss.mergeSort fun x y => decide (x ≤ y)) hl2 hbase hb h1 h2 h3
  have hc := Lib.ownsRow_putRow (q := q) (k := (Lib.compact (ss.mergeSort fun x y => decide (x ≤ y))).length) (ys := Lib.compact (ss.mergeSort fun x y => decide (x ≤ y)) ++ List.replicate (ss.length - (Lib.compact (ss.mergeSort fun x y => decide (x ≤ y))).length) []) hs (by simp; omega) (by omega)
  rw [List.take_left] at hc
  exact ⟨_, rfl, hc, Lib.below_putRow (hbel.grown (grownBy_sorted _) hbel.size (fun j hj => by cases hj; exact hbase)) hbg⟩
set_option maxHeartbeats 2000000 in
set_option maxRecDepth 100000 in
theorem of_tail (n : Nat) (arg : Value) (ss : List (List UInt8)) (w : World) (hn : n ≤ 4611686018427387903)
    (hclone : Calls Try.prog 58 #[arg] w fun e w' => ∃ v', e = .returned v' ∧ w'.ownsRow w.heap.size 9 1 v' n (ss.map encStr) ∧ v' ≠ .slice none 0 0 ∧ Below w.heap.size w w') :
    Calls Try.prog 77 #[arg] w (LeftS w ss) := by
  go_enter Try.func77, Try.ntmps77
  go_wp2_with (go_at_call 58; refine hclone.mono ?_)
  rintro e w1 ⟨v1, rfl, hown, hnn, hbel⟩
  obtain ⟨g, cap, rfl, hbg, hgl, hncap, hcm, hlen, hH⟩ := Lib.holds_of_ownsRow hown hnn
  have hsort := Try.slices_Sort_string g 0 cap ss w1 hH hgl (by omega)
  rw [hlen] at hsort
  have X : Aside (w1.ownsRow w.heap.size 9 1 (.slice (some ⟨g, 0, none⟩) n cap) n (ss.map encStr) ∧ Below w.heap.size w w1 ∧ w.heap.size ≤ g ∧ g < w1.heap.size ∧ n ≤ cap ∧ cap ≤ maxLen ∧ ss.length = n ∧ Holds encStr w1 g 0 ss.toArray) := ⟨hown, hbel, hbg, hgl, hncap, hcm, hlen, hH⟩
  clear hown hbel hH hnn
  go_wp2_with (go_at_call 94; refine hsort.mono ?_)
  rintro e w2 ⟨rfl, nn, os, rfl⟩
  have hl2 : (ss.mergeSort fun x y => decide (x ≤ y)).length = n := by rw [List.length_mergeSort]; exact X.out.2.2.2.2.2.2.1
  have hH2 : Holds encStr (grow (putRow encStr (Sort.ahead w1 nn) g 0 (ss.mergeSort fun x y => decide (x ≤ y)).toArray) os) g 0 (ss.mergeSort fun x y => decide (x ≤ y)).toArray :=
    holds_grow encStr _ os g 0 _ (by simpa [putRow, mapBlock, Sort.ahead] using X.out.2.2.2.1) (holds_putRow encStr _ g 0 _ _ (holds_ahead encStr w1 nn g 0 _ X.out.2.2.2.2.2.2.2) (by simp))
  have hcomp := Try.slices_Compact_string g 0 cap (ss.mergeSort fun x y => decide (x ≤ y)) _ hH2 (by omega) (by have := X.out.2.2.2.2.1; omega)
  rw [hl2] at hcomp
  clear hH2 hsort
  go_wp2_with (go_at_call 95; refine hcomp.mono ?_)
  rintro e w3 ⟨rfl, q, rfl⟩
  go_wp2
  go_ret
  exact leftS_of X.out.1 X.out.2.1 X.out.2.2.1 X.out.2.2.2.2.2.2.1
theorem of_any (b off n c : Nat) (zs : List ByteArray) (w : World) (hz : n ≤ zs.length) (hbig : n * 16 ≤ 140737488355328) (hc : ∀ j, j < zs.length → w.cell? ⟨b, off + j, none⟩ = some (.string (zs.getD j ByteArray.empty))) :
    Calls Try.prog 77 #[.slice (some ⟨b, off, none⟩) n c] w (LeftS w ((zs.take n).map (·.data.toList))) :=
  of_tail n _ _ w (by omega) ((Try.slices_Clone_string b off n c zs w hz hbig hc).mono fun e w' ⟨v', he, hown, hnn, hbel⟩ => ⟨v', he, by rw [Lib.map_encStr]; exact hown, hnn, hbel⟩)
theorem of_zero (a : Addr) (c : Nat) (w : World) : Calls Try.prog 77 #[.slice (some a) 0 c] w (LeftS w []) :=
  of_tail 0 _ [] w (by omega) (Try.slices_Clone_string_zero a c w)
set_option maxHeartbeats 2000000 in
theorem of_nil (w : World) : Calls Try.prog 77 #[.slice none 0 0] w fun e w' => e = .returned (.slice none 0 0) ∧ w' = w := by
  go_enter Try.func77, Try.ntmps77
  go_wp2_with (first
    | (go_at_call 58; refine (Try.slices_Clone_string_nil 0 0 _).mono ?_; rintro e w' ⟨rfl, rfl⟩)
    | (go_at_call 94; refine (Try.slices_Sort_string_none none 0 _).mono ?_; rintro e w' ⟨rfl, rfl⟩)
    | (go_at_call 95; refine (Try.slices_Compact_string_empty none 0 _).mono ?_; rintro e w' ⟨rfl, rfl⟩))
  go_ret
  exact ⟨rfl, rfl⟩
end Go.Proofs.Ytnifldbmflkmpaa
