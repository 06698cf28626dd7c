/-
  For every text, every number and every list of texts, RespMakes returns true, and the arguments read afterwards as they did.
  Conditions: none beyond the given statement's own.
-/
import Derived.Test.YtnifldbmflkmpaaGc
import Derived.Test.YtnifldbmflkmpaaFl
namespace Go.Proofs.Ytnifldbmflkmpaa
open Go Ev Go.RowKit Go.ChangeShapes Go.WideShapes
set_option linter.unusedVariables false
set_option linter.unusedSimpArgs false
set_option maxRecDepth 100000

theorem respMakes_all (xs : List AV) (h : hasAll Try.prog Try.f7.params.toList xs) : ∃ k h d, evalF cfg k 7 xs [] = some (.bool true, h, d) := by
  have hp : Try.f7.params.toList = [9, 3, 24] := by kernel_rfl
  rw [hp] at h
  match xs, h with
  | [x, y, z], h =>
    simp only [hasAll, and_true] at h
    obtain ⟨⟨n, h1⟩, ⟨n', h2⟩, ⟨n'', h3⟩⟩ := h
    obtain ⟨a, rfl, _⟩ := str_of h1
    obtain ⟨b, rfl, _⟩ := int_of h2
    obtain ⟨c, rfl, _⟩ := strs_of h3
    exact respMakes_ev a b c

theorem respMakes_lifted (os : Os) (started : os.Started) (H : Type) (enc : TypeId × Value → H) :
    ReturnsInHanded {} Try.checked os 7 .any (Rows.respMakesSpec.pre6 enc Try.prog Try.f7 Rows.respMakesRow.domain false) (Rows.respMakesSpec.post enc Try.prog Try.f7 false true false false) := by
  refine returnsInHanded_of_change (C := Try.checked) own started (by kernel_rfl) Try.func7
    (ChangeSpec.witness6 (enc := enc) (C := Try.checked) false ⟨#[], #[.string .empty, .int .i64 0, .slice none 0 0], []⟩ 8 (by kernel_rfl) (by kernel_rfl) (by kernel_rfl) (by kernel_rfl)) ?_
  intro W base args ds gs before hval hW hcnd _
  exact law_contract (C := cfg) cfg_ok bodies mixed laid (s := Rows.respMakesSpec) rfl (by kernel_rfl) Try.underlying4 tys_ok (by kernel_rfl)
    (fun ds hd => by
      have hp : Try.f7.params.toList.length = 3 := by kernel_rfl
      rw [hp] at hd
      match ds, hd with
      | [d1, d2, d3], _ => exact ⟨rfl, rfl, rfl⟩)
    respMakes_all W base args ds gs before hval hW

theorem respMakes_holds : Rows.RespMakesSaid :=
  OpenClaim.holds_of_wide 7 Try.f7 rfl rfl rfl rfl rfl rfl rfl ⟨rfl, rfl, rfl, rfl, rfl⟩ rfl rfl rfl rfl rfl (by kernel_rfl) Try.func7 (by kernel_rfl)
    (of_decide_eq_true (by kernel_rfl)) (by unfold Func.isWrapper; first | (rw [if_pos (by decide +kernel)]; kernel_rfl) | (rw [if_neg (by decide +kernel)]; exact ⟨rfl, rfl⟩))
    (fun os started H enc _ => respMakes_lifted os started H enc)
#print axioms respMakes_holds
end Go.Proofs.Ytnifldbmflkmpaa
