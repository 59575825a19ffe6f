/- The library's sort at []int, laid. No statement is proved here. -/
import Derived.Test.YtbbfbkoanbdghaaOB
import Derived.Shelf.Sort.Plain
import Derived.Sort.OwnSortedInts
set_option linter.unusedVariables false
set_option linter.unusedSimpArgs false
namespace Go.Proofs.Ytbbfbkoanbdghaa
open Go.RowKit Go.Shelf Go.Lib
open Go.Sort hiding Below
def sortI_ren : Go.Shelf.Ren := ⟨fun | 125 => 50 | 128 => 63 | 129 => 64 | 189 => 48 | 215 => 51 | 216 => 79 | 257 => 54 | 294 => 73 | 295 => 74 | 296 => 75 | 297 => 76 | 298 => 77 | 299 => 78 | 300 => 80 | 301 => 81 | 328 => 90 | 329 => 83 | 330 => 84 | 331 => 91 | 332 => 92 | 343 => 95 | n => n, fun | 0 => 0 | 3 => 3 | 4 => 4 | 5 => 5 | 9 => 9 | 28 => 38 | 46 => 73 | 51 => 104 | 53 => 106 | 131 => 101 | 182 => 96 | 183 => 97 | 218 => 117 | 222 => 121 | 228 => 127 | 229 => 128 | n => n, fun | n => n⟩
theorem sortI : Lays.n189 Try.prog sortI_ren := {
  mixed := by kernel_rfl
  f125 := Try.func50.trans (congrArg some (by kernel_rfl))
  f128 := Try.func63.trans (congrArg some (by kernel_rfl))
  f129 := Try.func64.trans (congrArg some (by kernel_rfl))
  f189 := Try.func48.trans (congrArg some (by kernel_rfl))
  f215 := Try.func51.trans (congrArg some (by kernel_rfl))
  f216 := Try.func79.trans (congrArg some (by kernel_rfl))
  f257 := Try.func54.trans (congrArg some (by kernel_rfl))
  f294 := Try.func73.trans (congrArg some (by kernel_rfl))
  f295 := Try.func74.trans (congrArg some (by kernel_rfl))
  f296 := Try.func75.trans (congrArg some (by kernel_rfl))
  f297 := Try.func76.trans (congrArg some (by kernel_rfl))
  f298 := Try.func77.trans (congrArg some (by kernel_rfl))
  f299 := Try.func78.trans (congrArg some (by kernel_rfl))
  f300 := Try.func80.trans (congrArg some (by kernel_rfl))
  f301 := Try.func81.trans (congrArg some (by kernel_rfl))
  f328 := Try.func90.trans (congrArg some (by kernel_rfl))
  f329 := Try.func83.trans (congrArg some (by kernel_rfl))
  f330 := Try.func84.trans (congrArg some (by kernel_rfl))
  f331 := Try.func91.trans (congrArg some (by kernel_rfl))
  f332 := Try.func92.trans (congrArg some (by kernel_rfl))
  f343 := Try.func95.trans (congrArg some (by kernel_rfl))
  t0 := Try.underlying0
  a0 := Try.isAgg0
  z0 := Try.sizeOf0
  v0 := Try.zeroValue0
  t3 := Try.underlying3
  a3 := Try.isAgg3
  z3 := Try.sizeOf3
  v3 := Try.zeroValue3
  t4 := Try.underlying4
  a4 := Try.isAgg4
  z4 := Try.sizeOf4
  v4 := Try.zeroValue4
  t5 := Try.underlying5
  a5 := Try.isAgg5
  z5 := Try.sizeOf5
  v5 := Try.zeroValue5
  t9 := Try.underlying9
  a9 := Try.isAgg9
  z9 := Try.sizeOf9
  v9 := Try.zeroValue9
  t28 := Try.underlying38
  a28 := Try.isAgg38
  z28 := Try.sizeOf38
  v28 := Try.zeroValue38
  t46 := Try.underlying73
  a46 := Try.isAgg73
  z46 := Try.sizeOf73
  v46 := Try.zeroValue73
  t51 := Try.underlying104
  a51 := Try.isAgg104
  z51 := Try.sizeOf104
  v51 := Try.zeroValue104
  t53 := Try.underlying106
  a53 := Try.isAgg106
  z53 := Try.sizeOf106
  v53 := Try.zeroValue106
  t131 := Try.underlying101
  a131 := Try.isAgg101
  z131 := Try.sizeOf101
  v131 := Try.zeroValue101
  t182 := Try.underlying96
  a182 := Try.isAgg96
  z182 := Try.sizeOf96
  v182 := Try.zeroValue96
  t183 := Try.underlying97
  a183 := Try.isAgg97
  z183 := Try.sizeOf97
  v183 := Try.zeroValue97
  t218 := Try.underlying117
  a218 := Try.isAgg117
  z218 := Try.sizeOf117
  v218 := Try.zeroValue117
  t222 := Try.underlying121
  a222 := Try.isAgg121
  z222 := Try.sizeOf121
  v222 := Try.zeroValue121
  t228 := Try.underlying127
  a228 := Try.isAgg127
  z228 := Try.sizeOf127
  v228 := Try.zeroValue127
  t229 := Try.underlying128
  a229 := Try.isAgg128
  z229 := Try.sizeOf128
  v229 := Try.zeroValue128 }
def SortNPost (B : Nat) (w : World) (v : Value) (l : List Nat) (e : Ending) (w' : World) : Prop := e = .returned (.tuple #[]) ∧ ∃ gs : List Nat, gs.Perm l ∧ gs.Pairwise (· ≤ ·) ∧ OwnN w' B v gs ∧ w.grownBy w' v.ownBlock
/-- slices.Sort over a row of numbers of the code's own. -/
theorem sortN_any {w : World} {B : Nat} {v : Value} {l : List Nat} (h : OwnN w B v l) (hne : l ≠ []) (hl : l.length ≤ 100000) : Calls Try.prog 48 #[v] w (SortNPost B w v l) := by
  rcases h.2 with ⟨rfl, h0⟩ | ⟨g, cap, cur, rfl, hB, hg, hle, hcm, hcs, htk⟩
  · exact absurd (List.eq_nil_of_length_eq_zero h0) hne
  · have e1 : cellsN l = (l.map fun (q : Nat) => (q : Int)).map (Value.int .i64) := by simp [cellsN, Function.comp_def]
    have hlen : (l.map fun (q : Nat) => (q : Int)).length = l.length := by simp
    have hH := holds_of_blockI (ss := l.map fun (q : Nat) => (q : Int)) hg (by rw [hlen]; rw [Nat.mul_one] at htk; rw [htk, e1])
    have hs := Any.slices_Sort_int sortI g 0 cap (l.map fun (q : Nat) => (q : Int)) w hH (blk_lt hg) (by rw [hlen]; omega)
    rw [hlen] at hs
    refine hs.mono ?_
    rintro e w' ⟨rfl, n, os, rfl⟩
    have hms : (l.map fun (q : Nat) => (q : Int)).mergeSort (fun x y => decide (x ≤ y)) = (l.mergeSort fun x y => decide (x ≤ y)).map fun (q : Nat) => (q : Int) :=
      (List.map_mergeSort fun a _ b _ => by simp).symm
    refine ⟨rfl, l.mergeSort fun x y => decide (x ≤ y), List.mergeSort_perm _ _, ?_, ?_, grownBy_sortedI _⟩
    · have := List.pairwise_mergeSort (le := fun (x y : Nat) => decide (x ≤ y)) (fun a b c h1 h2 => by simp at *; omega) (fun a b => by simp; omega) l
      exact this.imp fun h => by simpa using h
    · have hl2 : ((l.mergeSort fun x y => decide (x ≤ y)).map fun (q : Nat) => (q : Int)).length = (l.map fun (q : Nat) => (q : Int)).length := by simp
      have := ownsRow_sortedI (n := n) (os := os) hl2 hB hg (by rw [hlen]; exact hle) hcm hcs
      rw [hms]
      have e2 : cellsN (l.mergeSort fun x y => decide (x ≤ y)) = ((l.mergeSort fun x y => decide (x ≤ y)).map fun (q : Nat) => (q : Int)).map (Value.int .i64) := by simp [cellsN, Function.comp_def]
      show World.ownsRow _ B 3 1 _ (l.mergeSort fun x y => decide (x ≤ y)).length (cellsN (l.mergeSort fun x y => decide (x ≤ y)))
      rw [e2, List.length_mergeSort]
      rw [hlen] at this
      exact this
end Go.Proofs.Ytbbfbkoanbdghaa
