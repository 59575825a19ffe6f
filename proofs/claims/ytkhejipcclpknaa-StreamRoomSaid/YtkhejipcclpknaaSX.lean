/- The method 'block' of a reader's source, found by name. No statement is proved here. -/
import Derived.Test.YtkhejipcclpknaaSQ
set_option linter.unusedVariables false
set_option linter.unusedSimpArgs false
namespace Go.Proofs.Ytkhejipcclpknaa
open Go.RowKit

theorem types_size : Try.prog.types.size = 185 := by kernel_rfl
theorem m_region (v : Value) (w : World) : Sem.run Try.prog (method 285 99 (.agg #[v]) "proctor/stream.block") w = .ok (105, .agg #[v]) w := by kernel_rfl
theorem m_chain (v u : Value) (w : World) : Sem.run Try.prog (method 285 93 (.agg #[v, u]) "proctor/stream.block") w = .ok (102, .agg #[v, u]) w := by kernel_rfl
end Go.Proofs.Ytkhejipcclpknaa
