/-
  resp.bare, pentimentoref04.Size.
-/
import Derived.Test.YtnifldbmflkmpaaGb
namespace Go.Proofs.Ytnifldbmflkmpaa
open Go Ev
set_option linter.unusedVariables false
set_option linter.unusedSimpArgs false
set_option maxRecDepth 10000
set_option maxHeartbeats 4000000 in
theorem bare_ok (k : Int) (s : S) (n : Int) (l : List R) (b1 b2 b3 : Bool) : Ret cfg 98 [aR (.mk k s n l), .bool b1, .bool b2, .bool b3] (.bool ((b1 || s == []) && (b2 || n == 0) && (b3 || (l.length : Int) == 0))) := by
  refine Ret.of_body rfl rfl Try.func98 rfl (by simp) (by simp) ?_
  refine Ev.seq (Ev.region ?_)
  apply EvOps.keep (h' := [.cells [.int .i64 k, .str s, .int .i64 n, rs l]]) (d' := false) (fun fr => fr.length = 32 ∧ slotAt fr 4 = some (.ptr 0 0) ∧ slotAt fr 1 = some (.bool b1) ∧ slotAt fr 2 = some (.bool b2) ∧ slotAt fr 3 = some (.bool b3))
  · intro call; simp [Try.f98, aR, rs]; exact rfl
  · exact ⟨by simp, by simp, by simp, by simp, by simp⟩
  rintro fr ⟨hl, h4, h1, h2, h3⟩
  refine Ev.seq (Ev.region ?_)
  cases hs : (s == ([] : S)) <;> cases hn : (n == 0) <;> cases b1 <;> cases b2 <;> cases b3 <;>
  · apply EvOps.run
    · intro call; simp [-beq_iff_eq, hl, h1, h2, h3, h4, rs, hs, hn]; exact rfl
    refine Ev.ret ⟨_, by simp [Try.f98, hl]; rfl, ?_⟩
    simp
end Go.Proofs.Ytnifldbmflkmpaa
