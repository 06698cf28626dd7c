/-
  For every list of lists of texts, SetJoins returns true, and the list reads afterwards as it did.
  Conditions: none beyond the given statement's own.
-/
import Derived.Test.YtnifldbmflkmpaaFn
namespace Go.Proofs.Ytnifldbmflkmpaa
open Go Ev Go.RowKit Go.ChangeShapes Go.WideShapes
set_option linter.unusedVariables false
set_option linter.unusedSimpArgs false
set_option maxRecDepth 100000

theorem strss_of {n : Nat} {y : AV} (h : isOf Try.prog (has Try.prog n) 22 y) : ∃ ll : List (List S), y = strss ll := by
  rcases h with ⟨h, _⟩ | ⟨_, h⟩
  · simp at h
  cases n with
  | zero => exact h.elim
  | succ n =>
    simp only [has, Try.underlying22] at h
    obtain ⟨ys, e, hl, hy⟩ := h
    simp only [List.cons.injEq, and_true] at e
    have key : ∀ l : List AV, (∀ y ∈ l, isOf Try.prog (has Try.prog n) 24 y) → ∃ ll : List (List S), l = ll.map strs := by
      intro l
      induction l with
      | nil => intro _; exact ⟨[], rfl⟩
      | cons a l ih =>
        intro h
        obtain ⟨ll, e1⟩ := ih fun y hy => h y (List.mem_cons_of_mem _ hy)
        obtain ⟨s, e2, _⟩ := strs_of (h a (by simp))
        exact ⟨s :: ll, by rw [e1, e2]; rfl⟩
    obtain ⟨ll, e1⟩ := key ys hy
    subst e1
    exact ⟨ll, e⟩

theorem setJoins_all (xs : List AV) (h : hasAll Try.prog Try.f3.params.toList xs) : ∃ k h d, evalF cfg k 3 xs [] = some (.bool true, h, d) := by
  have hp : Try.f3.params.toList = [22] := by kernel_rfl
  rw [hp] at h
  match xs, h with
  | [x], h =>
    simp only [hasAll, and_true] at h
    obtain ⟨n, h1⟩ := h
    obtain ⟨a, rfl⟩ := strss_of h1
    exact setJoins_ev a

theorem setJoins_lifted (os : Os) (started : os.Started) (H : Type) (enc : TypeId × Value → H) :
    ReturnsInHanded {} Try.checked os 3 .any (Rows.setJoinsSpec.pre6 enc Try.prog Try.f3 Rows.setJoinsRow.domain false) (Rows.setJoinsSpec.post enc Try.prog Try.f3 false true false false) := by
  refine returnsInHanded_of_change (C := Try.checked) own started (by kernel_rfl) Try.func3
    (ChangeSpec.witness6 (enc := enc) (C := Try.checked) false ⟨#[], #[.slice none 0 0], []⟩ 8 (by kernel_rfl) (by kernel_rfl) (by kernel_rfl) (by kernel_rfl)) ?_
  intro W base args ds gs before hval hW hcnd _
  exact law_contract (C := cfg) cfg_ok bodies mixed laid (s := Rows.setJoinsSpec) rfl (by kernel_rfl) Try.underlying4 tys_ok (by kernel_rfl)
    (fun ds hd => by
      have hp : Try.f3.params.toList.length = 1 := by kernel_rfl
      rw [hp] at hd
      match ds, hd with
      | [d1], _ => exact ⟨rfl, rfl, rfl⟩)
    setJoins_all W base args ds gs before hval hW

theorem setJoins_holds : Rows.SetJoinsSaid :=
  OpenClaim.holds_of_wide 3 Try.f3 rfl rfl rfl rfl rfl rfl rfl ⟨rfl, rfl, rfl, rfl, rfl⟩ rfl rfl rfl rfl rfl (by kernel_rfl) Try.func3 (by kernel_rfl)
    (of_decide_eq_true (by kernel_rfl)) (by unfold Func.isWrapper; first | (rw [if_pos (by decide +kernel)]; kernel_rfl) | (rw [if_neg (by decide +kernel)]; exact ⟨rfl, rfl⟩))
    (fun os started H enc _ => setJoins_lifted os started H enc)
#print axioms setJoins_holds
end Go.Proofs.Ytnifldbmflkmpaa
