/- A fault that is right. No statement is proved here. -/
import Derived.Test.YtkhejipcclpknaaSI
set_option linter.unusedVariables false
set_option linter.unusedSimpArgs false
namespace Go.Proofs.Ytkhejipcclpknaa
open Go.RowKit

def Fl.right (f : Fl) (U : Nat) : Prop := 1 ≤ f.kind ∧ f.kind ≤ 4 ∧ 0 ≤ f.blk ∧ f.blk ≤ 4194304 ∧ 1 ≤ f.nth ∧ f.nth ≤ 1099511627776 ∧ 0 ≤ f.keep ∧ f.keep ≤ U
set_option maxHeartbeats 2000000 in
set_option maxRecDepth 100000 in
theorem rightFault_yes (w : World) (f : Fl) (U S : Nat) (h : f.right U) : Calls Try.prog 30 #[f.agg, .agg #[.int .i64 U, .int .i64 S]] w fun e w' => e = .returned (.bool true) ∧ Below w.heap.size w w' := by
  obtain ⟨h1, h2, h3, h4, h5, h6, h7, h8⟩ := h
  obtain ⟨k, b, n, p⟩ := f
  simp only at h1 h2 h3 h4 h5 h6 h7 h8
  go_enter Try.func30, Try.ntmps30
  go_wp2_with fail
  go_ret
  exact ⟨rfl, ((Below.refl _ w).alloc (Nat.le_refl _) _).alloc ((Below.refl _ w).alloc (Nat.le_refl _) _).size _⟩
end Go.Proofs.Ytkhejipcclpknaa
