/- The walk of ViolBounds. No statement is proved here. -/
import Derived.Test.YtgimpkbknaopcaaVO
set_option linter.unusedVariables false
set_option linter.unusedSimpArgs false
namespace Go.Proofs.Ytgimpkbknaopcaa
open Go.RowKit Go.Shelf Go.Lib
open Go.Sort hiding Below

theorem putOne (v : V) : putA 3 [] (Pt.mk v (0 + 1)) = [Pt.mk v 1] := by
  unfold putA
  rw [if_pos (by decide)]
  simp [upA_zero]
theorem perm_zero {d : Array Pt} (h : PermIn 0 0 #[] d) : d = #[] := Array.eq_empty_of_size_eq_zero h.1
theorem ownV_empty {w : World} {v : Value} (h : OwnV w v []) : ∃ a cap, v = .slice a 0 cap := by
  rcases h.2 with ⟨rfl, _⟩ | ⟨g, cap, cur, rfl, _⟩
  · exact ⟨none, 0, rfl⟩
  · exact ⟨_, _, rfl⟩

end Go.Proofs.Ytgimpkbknaopcaa
