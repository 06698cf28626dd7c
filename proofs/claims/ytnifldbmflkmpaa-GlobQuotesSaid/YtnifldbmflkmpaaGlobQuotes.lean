/-
  For any two texts, GlobQuotes returns true, and the arguments read afterwards as they did.
  Conditions: none beyond the given statement's own.
-/
import Derived.Test.YtnifldbmflkmpaaPf
import Derived.Test.YtnifldbmflkmpaaFl
namespace Go.Proofs.Ytnifldbmflkmpaa
open Go Ev Go.RowKit Go.ChangeShapes Go.WideShapes
set_option linter.unusedVariables false
set_option linter.unusedSimpArgs false
set_option maxRecDepth 100000

theorem globQuotes_all (xs : List AV) (h : hasAll Try.prog Try.f9.params.toList xs) : ∃ k h d, evalF cfg k 9 xs [] = some (.bool true, h, d) := by
  have hp : Try.f9.params.toList = [9, 9] := by kernel_rfl
  rw [hp] at h
  match xs, h with
  | [x, y], h =>
    simp only [hasAll, and_true] at h
    obtain ⟨⟨n1, h1⟩, ⟨n2, h2⟩⟩ := h
    obtain ⟨a, rfl, _⟩ := str_of h1
    obtain ⟨b, rfl, _⟩ := str_of h2
    exact globQuotes_ev a b

theorem globQuotes_lifted (os : Os) (started : os.Started) (H : Type) (enc : TypeId × Value → H) :
    ReturnsInHanded {} Try.checked os 9 .any (Rows.globQuotesSpec.pre6 enc Try.prog Try.f9 Rows.globQuotesRow.domain false) (Rows.globQuotesSpec.post enc Try.prog Try.f9 false true false false) := by
  refine returnsInHanded_of_change (C := Try.checked) own started (by kernel_rfl) Try.func9
    (ChangeSpec.witness6 (enc := enc) (C := Try.checked) false ⟨#[], #[.string .empty, .string .empty], []⟩ 8 (by kernel_rfl) (by kernel_rfl) (by kernel_rfl) (by kernel_rfl)) ?_
  intro W base args ds gs before hval hW hcnd _
  exact law_contract (C := cfg) cfg_ok bodies mixed laid (s := Rows.globQuotesSpec) rfl (by kernel_rfl) Try.underlying4 tys_ok (by kernel_rfl)
    (fun ds hd => by
      have hp : Try.f9.params.toList.length = 2 := by kernel_rfl
      rw [hp] at hd
      match ds, hd with
      | [d1, d2], _ => exact ⟨rfl, rfl, rfl⟩)
    globQuotes_all W base args ds gs before hval hW

theorem globQuotes_holds : Rows.GlobQuotesSaid :=
  OpenClaim.holds_of_wide 9 Try.f9 rfl rfl rfl rfl rfl rfl rfl ⟨rfl, rfl, rfl, rfl, rfl⟩ rfl rfl rfl rfl rfl (by kernel_rfl) Try.func9 (by kernel_rfl)
    (of_decide_eq_true (by kernel_rfl)) (by unfold Func.isWrapper; first | (rw [if_pos (by decide +kernel)]; kernel_rfl) | (rw [if_neg (by decide +kernel)]; exact ⟨rfl, rfl⟩))
    (fun os started H enc _ => globQuotes_lifted os started H enc)
#print axioms globQuotes_holds
end Go.Proofs.Ytnifldbmflkmpaa
