/-
  For any two lists of texts and any text, SetTurns returns true, and the arguments read afterwards as they did.
  Conditions: none beyond the given statement's own.
-/
import Derived.Test.YtnifldbmflkmpaaSc
import Derived.Test.YtnifldbmflkmpaaFl
namespace Go.Proofs.Ytnifldbmflkmpaa
open Go Ev Go.RowKit Go.ChangeShapes Go.WideShapes
set_option linter.unusedVariables false
set_option linter.unusedSimpArgs false
set_option maxRecDepth 100000

theorem setTurns_all (xs : List AV) (h : hasAll Try.prog Try.f13.params.toList xs) : ∃ k h d, evalF cfg k 13 xs [] = some (.bool true, h, d) := by
  have hp : Try.f13.params.toList = [24, 24, 9] := by kernel_rfl
  rw [hp] at h
  match xs, h with
  | [x, y, z], h =>
    simp only [hasAll, and_true] at h
    obtain ⟨⟨n1, h1⟩, ⟨n2, h2⟩, ⟨n3, h3⟩⟩ := h
    obtain ⟨a, rfl, _, _⟩ := strs_of h1
    obtain ⟨b, rfl, _, _⟩ := strs_of h2
    obtain ⟨c, rfl, _⟩ := str_of h3
    exact setTurns_ev a b c

theorem setTurns_lifted (os : Os) (started : os.Started) (H : Type) (enc : TypeId × Value → H) :
    ReturnsInHanded {} Try.checked os 13 .any (Rows.setTurnsSpec.pre6 enc Try.prog Try.f13 Rows.setTurnsRow.domain false) (Rows.setTurnsSpec.post enc Try.prog Try.f13 false true false false) := by
  refine returnsInHanded_of_change (C := Try.checked) own started (by kernel_rfl) Try.func13
    (ChangeSpec.witness6 (enc := enc) (C := Try.checked) false ⟨#[], #[.slice none 0 0, .slice none 0 0, .string .empty], []⟩ 8 (by kernel_rfl) (by kernel_rfl) (by kernel_rfl) (by kernel_rfl)) ?_
  intro W base args ds gs before hval hW hcnd _
  exact law_contract (C := cfg) cfg_ok bodies mixed laid (s := Rows.setTurnsSpec) rfl (by kernel_rfl) Try.underlying4 tys_ok (by kernel_rfl)
    (fun ds hd => by
      have hp : Try.f13.params.toList.length = 3 := by kernel_rfl
      rw [hp] at hd
      match ds, hd with
      | [d1, d2, d3], _ => exact ⟨rfl, rfl, rfl⟩)
    setTurns_all W base args ds gs before hval hW

theorem setTurns_holds : Rows.SetTurnsSaid :=
  OpenClaim.holds_of_wide 13 Try.f13 rfl rfl rfl rfl rfl rfl rfl ⟨rfl, rfl, rfl, rfl, rfl⟩ rfl rfl rfl rfl rfl (by kernel_rfl) Try.func13 (by kernel_rfl)
    (of_decide_eq_true (by kernel_rfl)) (by unfold Func.isWrapper; first | (rw [if_pos (by decide +kernel)]; kernel_rfl) | (rw [if_neg (by decide +kernel)]; exact ⟨rfl, rfl⟩))
    (fun os started H enc _ => setTurns_lifted os started H enc)
#print axioms setTurns_holds
end Go.Proofs.Ytnifldbmflkmpaa
