/-
  What each operation does: texts, indexes, slices, literals, lengths.
-/
import Derived.Test.YtnifldbmflkmpaaEvD
import Derived.Laws.Strings
namespace Go.Proofs.Ytnifldbmflkmpaa.Ev
open Go
set_option linter.unusedVariables false
set_option linter.unusedSimpArgs false

theorem strBin_run {P : Program} {w : World} (op : BinOp) (a b : ByteArray) {y : AV} (he : strBin op a.data.toList b.data.toList = some y) (t : TypeId) :
    ∃ v, (binOp op t (.string a) (.string b)).run P w = .ok v w ∧ ∀ m, VRel m y v := by
  have ea := ByteArray.toList_eq a
  have eb := ByteArray.toList_eq b
  cases op <;> simp only [strBin] at he <;> first
    | (cases he; done)
    | (split at he
       · rename_i hl
         simp only [Option.some.injEq] at he; subst he
         refine ⟨.string (a ++ b), ?_, fun m => ?_⟩
         · have h1 : ¬ (9223372036854775807 : Int) < (a.size : Int) + (b.size : Int) := by
             have : a.data.toList.length = a.size := rfl
             have : b.data.toList.length = b.size := rfl
             omega
           simp [binOp, Op.stringOp, IntKind.max, IntKind.signed, IntKind.bits, h1]
         · simp only [VRel]
           exact ⟨_, rfl, by simp⟩
       · cases he)
    | (simp only [Option.some.injEq] at he; subst he
       refine ⟨_, ?_, fun m => by simp only [VRel]; rfl⟩
       simp only [binOp, Op.stringOp, Sem.run_pure, ea, eb])

theorem eqA_run {P : Program} {m : M} {w : World} {t : TypeId} {x y : AV} {b : Bool} (he : eqA P t x y = some b) {u v : Value} (hx : VRel m x u) (hy : VRel m y v) :
    (Op.equal t u v).run P w = .ok b w := by
  obtain ⟨d, h1⟩ : ∃ d, Op.maxDepth = d + 1 := ⟨9999, rfl⟩
  unfold Op.equal
  rw [h1]
  unfold eqA at he
  split at he
  · simp only [VRel] at hx hy
    subst hx hy
    split at he
    · rename_i hu
      simp only [Option.some.injEq] at he
      subst he
      simp [Op.equalIn, run_underlying hu]
    · cases he
  · simp only [VRel] at hx hy
    subst hx hy
    split at he
    · rename_i hu
      simp only [Option.some.injEq] at he
      subst he
      simp [Op.equalIn, run_underlying hu]
    · cases he
  · rename_i xs nn cap tok
    simp only [VRel] at hx hy
    subst hy
    split at he
    · rename_i hu
      split at he
      · rename_i hn
        simp only [Option.some.injEq] at he
        subst he
        rcases hx with ⟨rfl, rfl, _⟩ | ⟨a, cap', cvs, s, rfl, _⟩
        · simp at hn
        · simp [Op.equalIn, run_underlying hu]
      · cases he
    · cases he
  · simp only [VRel] at hx hy
    obtain ⟨c, _, rfl⟩ := hx
    subst hy
    split at he
    · rename_i hu
      simp only [Option.some.injEq] at he
      subst he
      simp [Op.equalIn, run_underlying hu]
    · cases he
  · simp only [VRel] at hx hy
    subst hx hy
    split at he
    · rename_i hu
      simp only [Option.some.injEq] at he
      subst he
      simp [Op.equalIn, run_underlying hu]
    · cases he
  · simp only [VRel] at hx hy
    obtain ⟨c, _, rfl⟩ := hx
    subst hy
    split at he
    · rename_i hu
      simp only [Option.some.injEq] at he
      subst he
      simp [Op.equalIn, run_underlying hu]
    · cases he
  · simp only [VRel] at hx hy
    obtain ⟨c, _, rfl, _⟩ := hx
    subst hy
    split at he
    · rename_i hu
      simp only [Option.some.injEq] at he
      subst he
      simp [Op.equalIn, run_underlying hu]
    · cases he
  · cases he

theorem VRel.agg_inv {m : M} {a : AV} {p : Array Value} (h : VRel m a (.agg p)) : ∃ cs, a = .agg cs := by
  cases a <;> simp [VRel] at h ⊢
theorem VRel.nilIface_inv {m : M} {a : AV} (h : VRel m a .nilIface) : a = .nilIface := by
  cases a <;> simp [VRel] at h ⊢

/-- Values on which '==' has no guard. -/
theorem eqGuard_run {P : Program} {m : M} {w : World} (op : BinOp) (t : TypeId) (x y : Operand) {a b : AV} {c : AV} (he : binA P op t a b = some c) {u v : Value} (hx : VRel m a u) :
    (eqGuard op t x y u v).run P w = .ok () w := by
  have h1 : ∀ cs, a ≠ .agg cs := by
    rintro cs rfl
    unfold binA at he
    split at he <;> simp_all [eqA]
  have h2 : a ≠ .nilIface := by
    rintro rfl
    unfold binA at he
    split at he <;> simp_all [eqA]
  cases u with
  | nilIface => exact (h2 hx.nilIface_inv).elim
  | agg p =>
    obtain ⟨cs, rfl⟩ := hx.agg_inv
    exact (h1 cs rfl).elim
  | _ => simp [eqGuard]

theorem eqA_bin {P : Program} {m : M} {t : TypeId} {x y : AV} {b : Bool} (he : eqA P t x y = some b) {u v : Value} (hx : VRel m x u) (hy : VRel m y v) :
    binOp .eql t u v = (do pure (.bool (← Op.equal t u v))) ∧ binOp .neq t u v = (do pure (.bool (!(← Op.equal t u v)))) := by
  unfold eqA at he
  split at he
  all_goals (try simp only [VRel] at hx hy)
  · subst hx hy; exact ⟨rfl, rfl⟩
  · subst hx hy; exact ⟨rfl, rfl⟩
  · subst hy
    rcases hx with ⟨_, _, _, _, rfl⟩ | ⟨a, cap', cvs, s, rfl, _⟩ <;> exact ⟨rfl, rfl⟩
  · obtain ⟨c, _, rfl⟩ := hx; subst hy; exact ⟨rfl, rfl⟩
  · subst hx hy; exact ⟨rfl, rfl⟩
  · obtain ⟨c, _, rfl⟩ := hx; subst hy; exact ⟨rfl, rfl⟩
  · obtain ⟨a, cv, rfl, _⟩ := hx; subst hy; exact ⟨rfl, rfl⟩
  · cases he

theorem binA_ok {P : Program} {m : M} {w : World} {op : BinOp} {t : TypeId} {x y : AV} {z : AV} (he : binA P op t x y = some z) {u v : Value} (hx : VRel m x u) (hy : VRel m y v) :
    ∃ r, (binOp op t u v).run P w = .ok r w ∧ VRel m z r := by
  unfold binA at he
  split at he
  · rw [hx.int', hy.int']
    obtain ⟨r, h1, h2⟩ := shift_run (P := P) (w := w) .shl _ _ _ _ he t
    exact ⟨r, h1, h2 m⟩
  · rw [hx.int', hy.int']
    obtain ⟨r, h1, h2⟩ := shift_run (P := P) (w := w) .shr _ _ _ _ he t
    exact ⟨r, h1, h2 m⟩
  · rename_i k a k' b h1 h2
    split at he
    · rename_i hk
      subst hk
      rw [hx.int', hy.int']
      obtain ⟨r, k1, k2⟩ := intArith_run (P := P) (w := w) _ _ _ _ he t (fun e => by subst e; simp_all) (fun e => by subst e; simp_all)
      exact ⟨r, k1, k2 m⟩
    · cases he
  · simp only [VRel] at hx hy
    obtain ⟨a, rfl, rfl⟩ := hx
    obtain ⟨b, rfl, rfl⟩ := hy
    obtain ⟨r, k1, k2⟩ := strBin_run (P := P) (w := w) _ _ _ he t
    exact ⟨r, k1, k2 m⟩
  · cases hq : eqA P t x y with
    | none => simp [hq] at he
    | some b =>
      simp only [hq, Option.map_some, Option.some.injEq] at he
      subst he
      have h1 := eqA_run (P := P) (w := w) hq hx hy
      refine ⟨.bool b, ?_, by simp only [VRel]⟩
      rw [(eqA_bin hq hx hy).1]
      simp [h1]
  · cases hq : eqA P t x y with
    | none => simp [hq] at he
    | some b =>
      simp only [hq, Option.map_some, Option.some.injEq] at he
      subst he
      have h1 := eqA_run (P := P) (w := w) hq hx hy
      refine ⟨.bool (!b), ?_, by simp only [VRel]⟩
      rw [(eqA_bin hq hx hy).2]
      simp [h1]
  · cases he

end Go.Proofs.Ytnifldbmflkmpaa.Ev
