/-
  For every list of words and every list of gaps, RequestInline returns true, and the arguments read afterwards as they did.
  Conditions: none beyond the given statement's own.
-/
import Derived.Test.YtnifldbmflkmpaaMf
namespace Go.Proofs.Ytnifldbmflkmpaa
open Go Ev Go.RowKit Go.ChangeShapes Go.WideShapes
set_option linter.unusedVariables false
set_option linter.unusedSimpArgs false
set_option maxRecDepth 100000

theorem requestInline_all (xs : List AV) (h : hasAll Try.prog Try.f11.params.toList xs) : ∃ k h d, evalF cfg k 11 xs [] = some (.bool true, h, d) := by
  have hp : Try.f11.params.toList = [24, 43] := by kernel_rfl
  rw [hp] at h
  match xs, h with
  | [x, y], h =>
    simp only [hasAll, and_true] at h
    obtain ⟨⟨n1, h1⟩, ⟨n2, h2⟩⟩ := h
    obtain ⟨a, rfl, _, _⟩ := strs_of h1
    obtain ⟨b, rfl, _⟩ := bytes_of h2
    exact requestInline_ev a b

theorem requestInline_lifted (os : Os) (started : os.Started) (H : Type) (enc : TypeId × Value → H) :
    ReturnsInHanded {} Try.checked os 11 .any (Rows.requestInlineSpec.pre6 enc Try.prog Try.f11 Rows.requestInlineRow.domain false) (Rows.requestInlineSpec.post enc Try.prog Try.f11 false true false false) := by
  refine returnsInHanded_of_change (C := Try.checked) own started (by kernel_rfl) Try.func11
    (ChangeSpec.witness6 (enc := enc) (C := Try.checked) false ⟨#[], #[.slice none 0 0, .slice none 0 0], []⟩ 8 (by kernel_rfl) (by kernel_rfl) (by kernel_rfl) (by kernel_rfl)) ?_
  intro W base args ds gs before hval hW hcnd _
  exact law_contract (C := cfg) cfg_ok bodies mixed laid (s := Rows.requestInlineSpec) rfl (by kernel_rfl) Try.underlying4 tys_ok (by kernel_rfl)
    (fun ds hd => by
      have hp : Try.f11.params.toList.length = 2 := by kernel_rfl
      rw [hp] at hd
      match ds, hd with
      | [d1, d2], _ => exact ⟨rfl, rfl, rfl⟩)
    requestInline_all W base args ds gs before hval hW

theorem requestInline_holds : Rows.RequestInlineSaid :=
  OpenClaim.holds_of_wide 11 Try.f11 rfl rfl rfl rfl rfl rfl rfl ⟨rfl, rfl, rfl, rfl, rfl⟩ rfl rfl rfl rfl rfl (by kernel_rfl) Try.func11 (by kernel_rfl)
    (of_decide_eq_true (by kernel_rfl)) (by unfold Func.isWrapper; first | (rw [if_pos (by decide +kernel)]; kernel_rfl) | (rw [if_neg (by decide +kernel)]; exact ⟨rfl, rfl⟩))
    (fun os started H enc _ => requestInline_lifted os started H enc)
#print axioms requestInline_holds
end Go.Proofs.Ytnifldbmflkmpaa
