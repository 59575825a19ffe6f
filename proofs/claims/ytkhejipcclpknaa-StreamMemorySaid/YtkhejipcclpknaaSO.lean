/- Small functions: need, the counts of a device, its input. No statement is proved here. -/
import Derived.Test.YtkhejipcclpknaaSJ
set_option linter.unusedVariables false
set_option linter.unusedSimpArgs false
namespace Go.Proofs.Ytkhejipcclpknaa
open Go.RowKit

def needN (s u : Nat) : Nat := s / u + if 0 < s % u then 1 else 0
set_option maxHeartbeats 1000000 in
set_option maxRecDepth 100000 in
theorem need_any (w : World) (s u : Nat) (hu : 1 ≤ u) (hs : s ≤ 1000000000000) : Calls Try.prog 37 #[.int .i64 (s : Int), .int .i64 (u : Int)] w fun e w' => e = .returned (.int .i64 (needN s u : Nat)) ∧ w' = w := by
  have hq : ¬ u = 0 := by omega
  have hd : (s : Int).tdiv (u : Int) = ((s / u : Nat) : Int) := Int.ofNat_tdiv s u
  have hm : (s : Int).tmod (u : Int) = ((s % u : Nat) : Int) := Int.ofNat_tmod s u
  have hd1 : s / u ≤ s := Nat.div_le_self _ _
  have hm1 : s % u ≤ s := Nat.mod_le _ _
  obtain ⟨q, hqe⟩ : ∃ q, q = s / u := ⟨_, rfl⟩
  obtain ⟨m, hme⟩ : ∃ m, m = s % u := ⟨_, rfl⟩
  have HN := hid (show needN s u = q + if 0 < m then 1 else 0 by unfold needN; rw [hqe, hme])
  rw [← hqe] at hd hd1
  rw [← hme] at hm hm1
  have hw1 : IntKind.i64.wrap (q : Int) = (q : Int) := wrap_id (by omega) (by omega)
  have hw2 : IntKind.i64.wrap (m : Int) = (m : Int) := wrap_id (by omega) (by omega)
  have hw3 : IntKind.i64.wrap ((q : Int) + 1) = (q : Int) + 1 := wrap_id (by omega) (by omega)
  clear hqe hme
  by_cases h0 : 0 < m
  · have h0I : (0 : Int) < (m : Int) := by omega
    go_enter Try.func37, Try.ntmps37
    go_wp2_with fail
    go_ret
    exact ⟨by rw [HN.out, if_pos h0]; rfl, rfl⟩
  · have hm0 : m = 0 := by omega
    subst hm0
    go_enter Try.func37, Try.ntmps37
    go_wp2_with fail
    go_ret
    exact ⟨by rw [HN.out, if_neg h0]; rfl, rfl⟩
section
variable {w : World} {d : Dl} {D : Dv}
set_option maxHeartbeats 1000000 in
set_option maxRecDepth 100000 in
theorem counts_any (h : DvM w d D) : Calls Try.prog 22 #[.pointer (some ⟨d.g, 0, none⟩)] w fun e w' => e = .returned (.agg #[.int .i64 D.ci, .int .i64 D.cs, .int .i64 D.cw, .int .i64 D.ck]) ∧ Below w.heap.size w w' := by
  have hgl := blk_lt h.hg
  have hal := (Below.refl _ w).alloc (Nat.le_refl _) (.cells #[.int .i64 0, .int .i64 0, .int .i64 0, .int .i64 0] 55)
  have g6 := (hal.cell (p := ⟨d.g, 6, none⟩) hgl).trans ((h.cell 6).trans (show _ = some (Value.int .i64 D.ci) from rfl))
  have g7 := (hal.cell (p := ⟨d.g, 7, none⟩) hgl).trans ((h.cell 7).trans (show _ = some (Value.int .i64 D.cs) from rfl))
  have g8 := (hal.cell (p := ⟨d.g, 8, none⟩) hgl).trans ((h.cell 8).trans (show _ = some (Value.int .i64 D.cw) from rfl))
  have g9 := (hal.cell (p := ⟨d.g, 9, none⟩) hgl).trans ((h.cell 9).trans (show _ = some (Value.int .i64 D.ck) from rfl))
  clear h hal
  go_enter Try.func22, Try.ntmps22
  go_wp2_with fail
  refine bodyPost_ret (v := .agg #[.int .i64 D.ci, .int .i64 D.cs, .int .i64 D.cw, .int .i64 D.ck]) (by simp [results, Try.results22, go_sem]) rfl ?_
  exact ⟨rfl, (Below.refl _ w).alloc (Nat.le_refl _) _⟩
end
end Go.Proofs.Ytkhejipcclpknaa
