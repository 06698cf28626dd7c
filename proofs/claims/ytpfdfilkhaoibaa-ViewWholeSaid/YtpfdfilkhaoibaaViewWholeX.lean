/-
  For any number of things and any count, ViewWhole returns true: page by page each thing is there once, in order.
  Conditions: none beyond the given statement's own.
-/
import Derived.Test.YtpfdfilkhaoibaaMi
namespace Go.Proofs.Ytpfdfilkhaoibaa
open Go Ev Go.RowKit Go.ChangeShapes Go.WideShapes
set_option linter.unusedVariables false
set_option linter.unusedSimpArgs false
set_option maxRecDepth 100000

theorem viewWhole_all (xs : List AV) (h : hasAll Try.prog Try.f3.params.toList xs) : ∃ k h d, evalF cfg k 3 xs [] = some (.bool true, h, d) := by
  have hp : Try.f3.params.toList = [3, 3] := by kernel_rfl
  rw [hp] at h
  match xs, h with
  | [x, y], h =>
    simp only [hasAll, and_true] at h
    obtain ⟨⟨n1, h1⟩, ⟨n2, h2⟩⟩ := h
    obtain ⟨a, rfl, _⟩ := int_of h1
    obtain ⟨b, rfl, _⟩ := int_of h2
    exact viewWhole_ev a b

theorem viewWhole_lifted (os : Os) (started : os.Started) (H : Type) (enc : TypeId × Value → H) :
    ReturnsInHanded {} Try.checked os 3 .any (Rows.viewWholeSpec.pre6 enc Try.prog Try.f3 Rows.viewWholeRow.domain false) (Rows.viewWholeSpec.post enc Try.prog Try.f3 false true false false) := by
  refine returnsInHanded_of_change (C := Try.checked) own started (by kernel_rfl) Try.func3
    (ChangeSpec.witness6 (enc := enc) (C := Try.checked) false ⟨#[], #[.int .i64 0, .int .i64 0], []⟩ 8 (by kernel_rfl) (by kernel_rfl) (by kernel_rfl) (by kernel_rfl)) ?_
  intro W base args ds gs before hval hW hcnd _
  exact law_contract (C := cfg) cfg_ok bodies mixed laid (s := Rows.viewWholeSpec) rfl (by kernel_rfl) Try.underlying4 tys_ok (by kernel_rfl)
    (fun ds hd => by
      have hp : Try.f3.params.toList.length = 2 := by kernel_rfl
      rw [hp] at hd
      match ds, hd with
      | [d1, d2], _ => exact ⟨rfl, rfl, rfl⟩)
    viewWhole_all W base args ds gs before hval hW

theorem viewWhole_holds : Rows.ViewWholeSaid :=
  OpenClaim.holds_of_wide 3 Try.f3 rfl rfl rfl rfl rfl rfl rfl ⟨rfl, rfl, rfl, rfl, rfl⟩ rfl rfl rfl rfl rfl (by kernel_rfl) Try.func3 (by kernel_rfl)
    (of_decide_eq_true (by kernel_rfl)) (by unfold Func.isWrapper; first | (rw [if_pos (by decide +kernel)]; kernel_rfl) | (rw [if_neg (by decide +kernel)]; exact ⟨rfl, rfl⟩))
    (fun os started H enc _ => viewWhole_lifted os started H enc)
#print axioms viewWhole_holds
end Go.Proofs.Ytpfdfilkhaoibaa
