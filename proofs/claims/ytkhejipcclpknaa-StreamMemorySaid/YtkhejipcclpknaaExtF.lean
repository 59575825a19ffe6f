/- The space's Take. No statement is proved here. -/
import Derived.Test.YtkhejipcclpknaaExtE
set_option linter.unusedVariables false
set_option linter.unusedSimpArgs false
namespace Go.Proofs.Ytkhejipcclpknaa
open Go.RowKit

theorem insideB_true {n f c : Int} (h : insideB n f c = true) : 1 ≤ c ∧ 0 ≤ f ∧ f < n ∧ f + c ≤ n := by
  simp [insideB] at h; omega

theorem sp_cells {w : World} {p : Nat} {o : Option Nat} {n : Int} {A r : List (Int × Int)} {h : Int × Int} (hs : Sp w p o n (A ++ h :: r)) :
    ∃ g cap, o = some g ∧ w.cell? ⟨p, 1, none⟩ = some (.slice (some ⟨g, 0, none⟩) (A.length + 1 + r.length) cap) ∧ w.cell? ⟨g, A.length * 2, none⟩ = some (.int .i64 h.1) ∧ w.cell? ⟨g, A.length * 2 + 1, none⟩ = some (.int .i64 h.2) ∧ g < w.heap.size := by
  obtain ⟨a, cap, c0, c1, f1, hp, ho, hob, own, hel, hcap, hcm⟩ := hs.open
  obtain ⟨g, rfl, hog, e0, e1⟩ := hel A.length (by simp)
  refine ⟨g, cap, hog, ?_, by simpa using e0, by simpa using e1, ho g hog⟩
  rw [c1]; congr 2; simp; omega

end Go.Proofs.Ytkhejipcclpknaa
