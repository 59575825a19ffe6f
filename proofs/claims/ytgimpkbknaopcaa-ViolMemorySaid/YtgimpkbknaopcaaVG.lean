/- Less and Swap of the heap, over any program that holds their bodies: elements of k cells. No statement is proved here. -/
import Derived.Test.YtgimpkbknaopcaaVE
import Derived.Shelf.SlSortCmp.QuietGrown
set_option linter.unusedVariables false
set_option linter.unusedSimpArgs false
namespace Go.Proofs.Ytgimpkbknaopcaa
open Go.RowKit Go.Shelf Go.Lib
open Go.Sort hiding Below

set_option maxHeartbeats 4000000 in
set_option maxRecDepth 1000000 in
theorem less_o {P : Program} (mixed : P.follows .mixedOrders = true) (hf : P.funcs[76]? = some Try.f76)
    (u51 : P.underlying 51 = some (.slice 55)) (aE : ∀ w, (isAgg 55).run P w = .ok true w) (k : Nat) (zE : ∀ w, (Go.sizeOf 55).run P w = .ok k w)
    (eg : ∀ args w, (callFunc 25 args).run P w = .ok (.enter 25 args) w)
    (blk len cap i j : Nat) (x y : List Value) (r : Bool) (w : World) (hi : i < len) (hj : j < len) (hsz : len < 4611686018427387904)
    (l1 : ∀ n os, Sem.run P (loadCellsFrom ⟨blk, i * k, none⟩ 0 k #[]) (grow (w.drewN n) os) = .ok x.toArray (grow (w.drewN n) os))
    (l2 : ∀ n os, Sem.run P (loadCellsFrom ⟨blk, j * k, none⟩ 0 k #[]) (grow (w.drewN n) os) = .ok y.toArray (grow (w.drewN n) os))
    (hc : ∀ n os, Calls P 25 #[.agg x.toArray, .agg y.toArray] (grow (w.drewN n) os) fun e w' => e = .returned (.bool r) ∧ ∃ q os', w' = grow ((grow (w.drewN n) os).drewN q) os') :
    Calls P 76 #[.slice (some ⟨blk, 0, none⟩) len cap, .int .i64 i, .int .i64 j] w fun e w' => e = .returned (.bool r) ∧ Laid w w' := by
  have v51 := run_underlying u51
  have hi' : (i : Int) < (len : Int) := by omega
  have hj' : (j : Int) < (len : Int) := by omega
  go_enter hf, Try.ntmps76
  go_wp2_with fail
  go_quiet_grown (first | (go_at_call 25; refine Calls.grown_of (hc _ _)))
  clear l1 l2 hc
  go_wp2_with fail
  go_ret
  exact ⟨rfl, nq, osq, rfl⟩

set_option maxHeartbeats 4000000 in
set_option maxRecDepth 1000000 in
theorem swap_o {P : Program} (mixed : P.follows .mixedOrders = true) (hf : P.funcs[77]? = some Try.f77)
    (u51 : P.underlying 51 = some (.slice 55)) (aE : ∀ w, (isAgg 55).run P w = .ok true w) (k : Nat) (zE : ∀ w, (Go.sizeOf 55).run P w = .ok k w)
    (blk len cap i j : Nat) (x y : List Value) (w : World) (hi : i < len) (hj : j < len) (hsz : len < 4611686018427387904) (hx : x.length = k) (hy : y.length = k)
    (l1 : Sem.run P (loadCellsFrom ⟨blk, i * k, none⟩ 0 k #[]) w.drew = .ok x.toArray w.drew)
    (l2 : Sem.run P (loadCellsFrom ⟨blk, j * k, none⟩ 0 k #[]) w.drew = .ok y.toArray w.drew)
    (s1 : Sem.run P (storeCells ⟨blk, i * k, none⟩ y 0) w.drew = .ok () (w.drew.setCells blk (i * k) y))
    (s2 : Sem.run P (storeCells ⟨blk, j * k, none⟩ x 0) (w.drew.setCells blk (i * k) y) = .ok () ((w.drew.setCells blk (i * k) y).setCells blk (j * k) x)) :
    Calls P 77 #[.slice (some ⟨blk, 0, none⟩) len cap, .int .i64 i, .int .i64 j] w fun e w' => e = .returned (.tuple #[]) ∧ w' = (w.drew.setCells blk (i * k) y).setCells blk (j * k) x := by
  have v51 := run_underlying u51
  have hi' : (i : Int) < (len : Int) := by omega
  have hj' : (j : Int) < (len : Int) := by omega
  go_enter hf, Try.ntmps77
  go_wp2_with fail
  go_big_region_o
  exact bodyPost_end (v := .tuple #[]) (by simp [results, Try.results77, go_sem]) rfl ⟨rfl, rfl⟩

theorem row_of {w : World} {g : Nat} {d : Array Pt} (hH : HoldsK encP 13 w g 0 d) (hg : g < w.heap.size) : RowK encP 13 w g 0 d := ⟨encP_length, encP_one, hH, hg⟩
theorem enters_behind : ∀ args w, (callFunc 25 args).run Try.prog w = .ok (.enter 25 args) w := enters_of Try.func25 (by kernel_rfl) rfl
theorem mixedT : Try.prog.follows .mixedOrders = true := by kernel_rfl

theorem less_any (g cap : Nat) (d : Array Pt) (i j : Nat) (w : World) (hH : HoldsK encP 13 w g 0 d) (hg : g < w.heap.size) (hi : i < d.size) (hj : j < d.size) (hsz : d.size < 4611686018427387904) :
    Calls Try.prog 76 #[.slice (some ⟨g, 0, none⟩) d.size cap, .int .i64 i, .int .i64 j] w fun e w' => e = .returned (.bool (behindB d[i]! d[j]!)) ∧ Laid w w' := by
  have l1 := fun n os => (SWK.start hH).ld (row_of hH hg) rfl Try.prog i hi n os
  have l2 := fun n os => (SWK.start hH).ld (row_of hH hg) rfl Try.prog j hj n os
  simp only [Nat.zero_add] at l1 l2
  exact less_o mixedT Try.func76 Try.underlying51 Try.isAgg55 13 Try.sizeOf55 enters_behind g d.size cap i j (encP d[i]!) (encP d[j]!) _ w hi hj hsz l1 l2
    (fun n os => behind_any d[i]! d[j]! _)
theorem swap_any (g cap : Nat) (d : Array Pt) (i j : Nat) (w : World) (hH : HoldsK encP 13 w g 0 d) (hg : g < w.heap.size) (hi : i < d.size) (hj : j < d.size) (hsz : d.size < 4611686018427387904) :
    Calls Try.prog 77 #[.slice (some ⟨g, 0, none⟩) d.size cap, .int .i64 i, .int .i64 j] w fun e w' => e = .returned (.tuple #[]) ∧ SWK encP 13 w g 0 (swp d i j) w' := by
  have R := row_of hH hg
  have S := SWK.start hH
  have l1 := S.ld1 R rfl Try.prog i hi
  have l2 := S.ld1 R rfl Try.prog j hj
  have s1 := S.st1 R rfl Try.prog i hi d[j]!
  have s2 := S.st2 R rfl Try.prog i j hi hj d[j]! d[i]!
  have h3 := S.swapped R i j hi hj
  simp only [Nat.zero_add] at l1 l2 s1 s2 h3
  refine (swap_o mixedT Try.func77 Try.underlying51 Try.isAgg55 13 Try.sizeOf55 g d.size cap i j (encP d[i]!) (encP d[j]!) w hi hj hsz rfl rfl l1 l2 s1 s2).mono ?_
  rintro e w' ⟨rfl, rfl⟩
  exact ⟨rfl, h3⟩
end Go.Proofs.Ytgimpkbknaopcaa
