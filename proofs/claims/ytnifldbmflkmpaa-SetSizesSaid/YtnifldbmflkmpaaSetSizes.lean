/-
  For every two lists of texts, SetSizes returns true, and both lists read afterwards as they did.
  Conditions: none beyond the given statement's own.
-/
import Derived.Test.YtnifldbmflkmpaaFm
namespace Go.Proofs.Ytnifldbmflkmpaa
open Go Ev Go.RowKit Go.ChangeShapes Go.WideShapes
set_option linter.unusedVariables false
set_option linter.unusedSimpArgs false
set_option maxRecDepth 100000

theorem setSizes_all (xs : List AV) (h : hasAll Try.prog Try.f5.params.toList xs) : ∃ k h d, evalF cfg k 5 xs [] = some (.bool true, h, d) := by
  have hp : Try.f5.params.toList = [24, 24] := by kernel_rfl
  rw [hp] at h
  match xs, h with
  | [x, y], h =>
    simp only [hasAll, and_true] at h
    obtain ⟨⟨n, h1⟩, ⟨n', h2⟩⟩ := h
    obtain ⟨a, rfl, la, _⟩ := strs_of h1
    obtain ⟨b, rfl, lb, _⟩ := strs_of h2
    exact setSizes_ev a b

theorem setSizes_lifted (os : Os) (started : os.Started) (H : Type) (enc : TypeId × Value → H) :
    ReturnsInHanded {} Try.checked os 5 .any (Rows.setSizesSpec.pre6 enc Try.prog Try.f5 Rows.setSizesRow.domain false) (Rows.setSizesSpec.post enc Try.prog Try.f5 false true false false) := by
  refine returnsInHanded_of_change (C := Try.checked) own started (by kernel_rfl) Try.func5
    (ChangeSpec.witness6 (enc := enc) (C := Try.checked) false ⟨#[], #[.slice none 0 0, .slice none 0 0], []⟩ 8 (by kernel_rfl) (by kernel_rfl) (by kernel_rfl) (by kernel_rfl)) ?_
  intro W base args ds gs before hval hW hcnd _
  exact law_contract (C := cfg) cfg_ok bodies mixed laid (s := Rows.setSizesSpec) rfl (by kernel_rfl) Try.underlying4 tys_ok (by kernel_rfl)
    (fun ds hd => by
      have hp : Try.f5.params.toList.length = 2 := by kernel_rfl
      rw [hp] at hd
      match ds, hd with
      | [d1, d2], _ => exact ⟨rfl, rfl, rfl⟩)
    setSizes_all W base args ds gs before hval hW

theorem setSizes_holds : Rows.SetSizesSaid :=
  OpenClaim.holds_of_wide 5 Try.f5 rfl rfl rfl rfl rfl rfl rfl ⟨rfl, rfl, rfl, rfl, rfl⟩ rfl rfl rfl rfl rfl (by kernel_rfl) Try.func5 (by kernel_rfl)
    (of_decide_eq_true (by kernel_rfl)) (by unfold Func.isWrapper; first | (rw [if_pos (by decide +kernel)]; kernel_rfl) | (rw [if_neg (by decide +kernel)]; exact ⟨rfl, rfl⟩))
    (fun os started H enc _ => setSizes_lifted os started H enc)
#print axioms setSizes_holds
end Go.Proofs.Ytnifldbmflkmpaa
