/-
  For any three texts, GlobStars returns true, and the arguments read afterwards as they did.
  Conditions: none beyond the given statement's own.
-/
import Derived.Test.YtnifldbmflkmpaaPf
import Derived.Test.YtnifldbmflkmpaaFl
namespace Go.Proofs.Ytnifldbmflkmpaa
open Go Ev Go.RowKit Go.ChangeShapes Go.WideShapes
set_option linter.unusedVariables false
set_option linter.unusedSimpArgs false
set_option maxRecDepth 100000

theorem globStars_all (xs : List AV) (h : hasAll Try.prog Try.f8.params.toList xs) : ∃ k h d, evalF cfg k 8 xs [] = some (.bool true, h, d) := by
  have hp : Try.f8.params.toList = [9, 9, 9] := by kernel_rfl
  rw [hp] at h
  match xs, h with
  | [x, y, z], h =>
    simp only [hasAll, and_true] at h
    obtain ⟨⟨n1, h1⟩, ⟨n2, h2⟩, ⟨n3, h3⟩⟩ := h
    obtain ⟨a, rfl, _⟩ := str_of h1
    obtain ⟨b, rfl, _⟩ := str_of h2
    obtain ⟨c, rfl, _⟩ := str_of h3
    exact globStars_ev a b c

theorem globStars_lifted (os : Os) (started : os.Started) (H : Type) (enc : TypeId × Value → H) :
    ReturnsInHanded {} Try.checked os 8 .any (Rows.globStarsSpec.pre6 enc Try.prog Try.f8 Rows.globStarsRow.domain false) (Rows.globStarsSpec.post enc Try.prog Try.f8 false true false false) := by
  refine returnsInHanded_of_change (C := Try.checked) own started (by kernel_rfl) Try.func8
    (ChangeSpec.witness6 (enc := enc) (C := Try.checked) false ⟨#[], #[.string .empty, .string .empty, .string .empty], []⟩ 8 (by kernel_rfl) (by kernel_rfl) (by kernel_rfl) (by kernel_rfl)) ?_
  intro W base args ds gs before hval hW hcnd _
  exact law_contract (C := cfg) cfg_ok bodies mixed laid (s := Rows.globStarsSpec) rfl (by kernel_rfl) Try.underlying4 tys_ok (by kernel_rfl)
    (fun ds hd => by
      have hp : Try.f8.params.toList.length = 3 := by kernel_rfl
      rw [hp] at hd
      match ds, hd with
      | [d1, d2, d3], _ => exact ⟨rfl, rfl, rfl⟩)
    globStars_all W base args ds gs before hval hW

theorem globStars_holds : Rows.GlobStarsSaid :=
  OpenClaim.holds_of_wide 8 Try.f8 rfl rfl rfl rfl rfl rfl rfl ⟨rfl, rfl, rfl, rfl, rfl⟩ rfl rfl rfl rfl rfl (by kernel_rfl) Try.func8 (by kernel_rfl)
    (of_decide_eq_true (by kernel_rfl)) (by unfold Func.isWrapper; first | (rw [if_pos (by decide +kernel)]; kernel_rfl) | (rw [if_neg (by decide +kernel)]; exact ⟨rfl, rfl⟩))
    (fun os started H enc _ => globStars_lifted os started H enc)
#print axioms globStars_holds
end Go.Proofs.Ytnifldbmflkmpaa
