/- A new space by its free blocks; how many are left. No statement is proved here. -/
import Derived.Test.YtkhejipcclpknaaSL
import Derived.Test.YtkhejipcclpknaaExtQ
set_option linter.unusedVariables false
set_option linter.unusedSimpArgs false
namespace Go.Proofs.Ytkhejipcclpknaa
open Go.RowKit

def allFree (n : Nat) (x : Int) : Bool := decide (0 ≤ x) && decide (x < n)
def SpacePost (w : World) (n : Nat) (e : Ending) (w' : World) : Prop := ∃ p o, e = .returned (.tuple #[.pointer (some ⟨p, 0, none⟩), .int .i64 0]) ∧ SpF w' p o n (allFree n) ∧ w.heap.size ≤ p ∧ (∀ k, o = some k → w.heap.size ≤ k) ∧ Below w.heap.size w w'
theorem space_any (n : Nat) (w : World) (h1 : n ≤ 4096) : Calls Try.prog 12 #[.int .i64 (n : Int)] w (SpacePost w n) := by
  refine (new_good (n : Int) w (by omega) (by omega)).mono ?_
  rintro e w' ⟨p, o, rfl, hsp, hp, ho, hb⟩
  refine ⟨p, o, rfl, ⟨_, hsp, fun x => ?_⟩, hp, ho, hb⟩
  unfold newHoles allFree
  by_cases h0 : 0 < (n : Int)
  · rw [if_pos h0, freeB_cons]
    simp
  · rw [if_neg h0, freeB_nil]
    simp
    omega
theorem leftF_any {w : World} {p : Nat} {o : Option Nat} {n : Nat} {F : Int → Bool} (h : SpF w p o n F) : Calls Try.prog 25 #[.pointer (some ⟨p, 0, none⟩)] w fun e w' => e = .returned (.int .i64 (cntB F n)) ∧ Below w.heap.size w w' := by
  obtain ⟨hs, h1, h2⟩ := h
  have := leftOf_cnt (Int.le_refl 0) h1.ok n (Int.le_refl _)
  rw [show freeB hs = F from funext h2] at this
  rw [← this]
  exact left_any p o n hs w h1
end Go.Proofs.Ytkhejipcclpknaa
