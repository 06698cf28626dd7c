/-
  For every list of commands, RequestBack returns true, and the list reads afterwards as it did.
  Conditions: none beyond the given statement's own.
-/
import Derived.Test.YtnifldbmflkmpaaMf
namespace Go.Proofs.Ytnifldbmflkmpaa
open Go Ev Go.RowKit Go.ChangeShapes Go.WideShapes
set_option linter.unusedVariables false
set_option linter.unusedSimpArgs false
set_option maxRecDepth 100000

theorem requestBack_all (xs : List AV) (h : hasAll Try.prog Try.f10.params.toList xs) : ∃ k h d, evalF cfg k 10 xs [] = some (.bool true, h, d) := by
  have hp : Try.f10.params.toList = [22] := by kernel_rfl
  rw [hp] at h
  match xs, h with
  | [x], h =>
    simp only [hasAll, and_true] at h
    obtain ⟨n1, h1⟩ := h
    obtain ⟨a, rfl, _, _⟩ := strss_of h1
    exact requestBack_ev a

theorem requestBack_lifted (os : Os) (started : os.Started) (H : Type) (enc : TypeId × Value → H) :
    ReturnsInHanded {} Try.checked os 10 .any (Rows.requestBackSpec.pre6 enc Try.prog Try.f10 Rows.requestBackRow.domain false) (Rows.requestBackSpec.post enc Try.prog Try.f10 false true false false) := by
  refine returnsInHanded_of_change (C := Try.checked) own started (by kernel_rfl) Try.func10
    (ChangeSpec.witness6 (enc := enc) (C := Try.checked) false ⟨#[], #[.slice none 0 0], []⟩ 8 (by kernel_rfl) (by kernel_rfl) (by kernel_rfl) (by kernel_rfl)) ?_
  intro W base args ds gs before hval hW hcnd _
  exact law_contract (C := cfg) cfg_ok bodies mixed laid (s := Rows.requestBackSpec) rfl (by kernel_rfl) Try.underlying4 tys_ok (by kernel_rfl)
    (fun ds hd => by
      have hp : Try.f10.params.toList.length = 1 := by kernel_rfl
      rw [hp] at hd
      match ds, hd with
      | [d1], _ => exact ⟨rfl, rfl, rfl⟩)
    requestBack_all W base args ds gs before hval hW

theorem requestBack_holds : Rows.RequestBackSaid :=
  OpenClaim.holds_of_wide 10 Try.f10 rfl rfl rfl rfl rfl rfl rfl ⟨rfl, rfl, rfl, rfl, rfl⟩ rfl rfl rfl rfl rfl (by kernel_rfl) Try.func10 (by kernel_rfl)
    (of_decide_eq_true (by kernel_rfl)) (by unfold Func.isWrapper; first | (rw [if_pos (by decide +kernel)]; kernel_rfl) | (rw [if_neg (by decide +kernel)]; exact ⟨rfl, rfl⟩))
    (fun os started H enc _ => requestBack_lifted os started H enc)
#print axioms requestBack_holds
end Go.Proofs.Ytnifldbmflkmpaa
