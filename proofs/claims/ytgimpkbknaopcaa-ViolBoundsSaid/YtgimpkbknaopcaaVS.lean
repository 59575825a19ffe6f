/- The walk of ViolBounds. No statement is proved here. -/
import Derived.Test.YtgimpkbknaopcaaVP
import Derived.Test.YtgimpkbknaopcaaVQ
import Derived.Test.YtgimpkbknaopcaaVR
set_option linter.unusedVariables false
set_option linter.unusedSimpArgs false
namespace Go.Proofs.Ytgimpkbknaopcaa
open Go.RowKit Go.Shelf Go.Lib
open Go.Sort hiding Below


set_option maxHeartbeats 4000000 in
set_option maxRecDepth 1000000 in
theorem bounds_walk (k : Int) (past : Bool) (w : World) : Calls Try.prog 5 #[.int .i64 k, .bool past] w fun e w' => e = .returned (.bool true) ∧ Below w.heap.size w w' := by
  by_cases h0 : k < 0
  · have d0 : decide (k < 0) = true := decide_eq_true h0
    go_enter Try.func5, Try.ntmps5
    go_wp2_with fail
    refine (anchor_any _).mono ?_
    rintro e w1 ⟨rfl, hb1⟩
    go_wp2_with fail
    go_ret
    exact ⟨rfl, hb1⟩
  by_cases h1 : 12 < k
  · have d0 : decide (k < 0) = false := decide_eq_false h0
    have d1 : decide (12 < k) = true := decide_eq_true h1
    go_enter Try.func5, Try.ntmps5
    go_wp2_with fail
    refine (anchor_any _).mono ?_
    rintro e w1 ⟨rfl, hb1⟩
    go_wp2_with fail
    go_ret
    exact ⟨rfl, hb1⟩
  obtain rfl | rfl | rfl | rfl | rfl | rfl | rfl | rfl | rfl | rfl | rfl | rfl | rfl : k = 0 ∨ k = 1 ∨ k = 2 ∨ k = 3 ∨ k = 4 ∨ k = 5 ∨ k = 6 ∨ k = 7 ∨ k = 8 ∨ k = 9 ∨ k = 10 ∨ k = 11 ∨ k = 12 := by omega
  · cases past; exact b0n w; exact b0p w
  · cases past; exact b1n w; exact b1p w
  · cases past; exact b2n w; exact b2p w
  · cases past; exact b3n w; exact b3p w
  · cases past; exact b4n w; exact b4p w
  · cases past; exact b5n w; exact b5p w
  · cases past; exact b6n w; exact b6p w
  · cases past; exact b7n w; exact b7p w
  · cases past; exact b8n w; exact b8p w
  · cases past; exact b9n w; exact b9p w
  · cases past; exact b10n w; exact b10p w
  · cases past; exact b11n w; exact b11p w
  · cases past; exact b12n w; exact b12p w
end Go.Proofs.Ytgimpkbknaopcaa
