/- A writer that may not go on: Write and Close tell why. No statement is proved here. -/
import Derived.Test.YtkhejipcclpknaaSJ
set_option linter.unusedVariables false
set_option linter.unusedSimpArgs false
namespace Go.Proofs.Ytkhejipcclpknaa
open Go.RowKit

set_option maxHeartbeats 1000000 in
set_option maxRecDepth 100000 in
theorem write_stopped {w : World} {p g s : Nat} {o o' : Option Nat} {W : Wt} (h : WtM w p g s o o' W) (hr : W.ready ≠ 0) (v : Value) : Calls Try.prog 14 #[.pointer (some ⟨p, 0, none⟩), v] w fun e w' => e = .returned (.int .i64 W.ready) ∧ w' = w := by
  have HR := hid (ready_any h)
  obtain ⟨r, hre⟩ : ∃ r, r = W.ready := ⟨_, rfl⟩
  rw [← hre] at HR hr ⊢
  have b1 : (r == 0) = false := beq_eq_false_iff_ne.mpr hr
  clear h hre
  go_enter Try.func14, Try.ntmps14
  go_wp2_with (go_at_call 33; refine HR.out.mono ?_; rintro e w1 ⟨rfl, h1⟩; rw [h1]; clear h1 w1)
  go_ret
  exact ⟨rfl, rfl⟩
set_option maxHeartbeats 1000000 in
set_option maxRecDepth 100000 in
theorem close_stopped {w : World} {p g s : Nat} {o o' : Option Nat} {W : Wt} (h : WtM w p g s o o' W) (hr : W.ready ≠ 0) : Calls Try.prog 16 #[.pointer (some ⟨p, 0, none⟩)] w fun e w' => e = .returned (.tuple #[.agg #[.slice none 0 0, .int .i64 0], .int .i64 W.ready]) ∧ Below w.heap.size w w' := by
  have hal := (Below.refl _ w).alloc (Nat.le_refl _) (.cells #[.slice none 0 0, .int .i64 0] 39)
  have HR := hid (ready_any (h.below hal))
  have HAL := hid hal
  obtain ⟨r, hre⟩ : ∃ r, r = W.ready := ⟨_, rfl⟩
  rw [← hre] at HR hr ⊢
  have b1 : (r == 0) = false := beq_eq_false_iff_ne.mpr hr
  clear h hre hal
  go_enter Try.func16, Try.ntmps16
  go_wp2_with (go_at_call 33; refine HR.out.mono ?_; rintro e w1 ⟨rfl, h1⟩; rw [h1]; clear h1 w1)
  refine bodyPost_ret (v := .tuple #[.agg #[.slice none 0 0, .int .i64 0], .int .i64 r]) (by simp [results, Try.results16, go_sem]) rfl ?_
  exact ⟨rfl, by first | exact HAL.out | exact (HAL.out.setCell (p := ⟨w.heap.size, 0, none⟩) (Nat.le_refl _) _).setCell (p := ⟨w.heap.size, 1, none⟩) (Nat.le_refl _) _⟩
end Go.Proofs.Ytkhejipcclpknaa
