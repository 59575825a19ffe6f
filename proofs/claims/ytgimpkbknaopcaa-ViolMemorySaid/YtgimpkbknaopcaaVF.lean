/- The methods of the heap's interface, found by name. No statement is proved here. -/
import Derived.Test.YtgimpkbknaopcaaVD
set_option linter.unusedVariables false
set_option linter.unusedSimpArgs false
namespace Go.Proofs.Ytgimpkbknaopcaa
open Go.RowKit

theorem m_push (t : Nat) (w : World) : Sem.run Try.prog (method 219 57 (.pointer (some ⟨t, 2, none⟩)) "Push") w = .ok (78, .pointer (some ⟨t, 2, none⟩)) w := by kernel_rfl
theorem m_len0 (t : Nat) (w : World) : Sem.run Try.prog (method 219 57 (.pointer (some ⟨t, 2, none⟩)) "Len") w = Sem.run Try.prog (do let v ← load ⟨t, 2, none⟩; pure (75, v)) w := by kernel_rfl
theorem m_less0 (t : Nat) (w : World) : Sem.run Try.prog (method 219 57 (.pointer (some ⟨t, 2, none⟩)) "Less") w = Sem.run Try.prog (do let v ← load ⟨t, 2, none⟩; pure (76, v)) w := by kernel_rfl
theorem m_swap0 (t : Nat) (w : World) : Sem.run Try.prog (method 219 57 (.pointer (some ⟨t, 2, none⟩)) "Swap") w = Sem.run Try.prog (do let v ← load ⟨t, 2, none⟩; pure (77, v)) w := by kernel_rfl
theorem run_ld {t : Nat} {w : World} {v : Value} (f : Nat) (h : w.cell? ⟨t, 2, none⟩ = some v) : Sem.run Try.prog (do let v ← load ⟨t, 2, none⟩; pure (f, v)) w = .ok (f, v) w := by
  simp [h, go_sem]
end Go.Proofs.Ytgimpkbknaopcaa
