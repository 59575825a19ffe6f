/- A device's small methods: its blocks, its sizes, a block of its scratch region, its counts, its input. No statement is proved here. -/
import Derived.Test.YtkhejipcclpknaaSD
import Derived.StillTactics
set_option linter.unusedVariables false
set_option linter.unusedSimpArgs false
namespace Go.Proofs.Ytkhejipcclpknaa
open Go.RowKit

theorem wrap_id {x : Int} (h1 : -9223372036854775808 ≤ x) (h2 : x ≤ 9223372036854775807) : IntKind.i64.wrap x = x := by
  rw [IntKind.wrap_i64]
  omega
def Dv.blocks (D : Dv) : Nat := (D.inp.length + D.unit - 1) / D.unit
section
variable {w : World} {d : Dl} {D : Dv}
set_option maxHeartbeats 1000000 in
set_option maxRecDepth 100000 in
theorem blocks_any (h : DvM w d D) : Calls Try.prog 23 #[.pointer (some ⟨d.g, 0, none⟩)] w fun e w' => e = .returned (.int .i64 (D.blocks : Nat)) ∧ w' = w.drew := by
  have g0 : w.cell? ⟨d.g, 0, none⟩ = some (.int .i64 D.unit) := (h.cell 0).trans rfl
  have g2 : w.cell? ⟨d.g, 2, none⟩ = some (.slice (some ⟨d.ib, 0, none⟩) D.inp.length d.ic) := (h.cell 2).trans rfl
  have u0 := h.u0
  have u1 := h.u1
  have i1 := h.i1
  have hq : ¬ D.unit = 0 := by omega
  have hw1 : IntKind.i64.wrap ((D.inp.length : Int) + D.unit) = (D.inp.length : Int) + D.unit := wrap_id (by omega) (by omega)
  have hw2 : IntKind.i64.wrap ((D.inp.length : Int) + D.unit - 1) = (D.inp.length : Int) + D.unit - 1 := wrap_id (by omega) (by omega)
  have hd : ((D.inp.length : Int) + D.unit - 1).tdiv D.unit = (D.blocks : Nat) := by
    unfold Dv.blocks
    rw [show (D.inp.length : Int) + D.unit - 1 = ((D.inp.length + D.unit - 1 : Nat) : Int) by omega, Int.ofNat_tdiv]
  have hb : D.blocks ≤ 5000000 := Nat.le_trans (Nat.div_le_self _ _) (by omega)
  have hw3 : IntKind.i64.wrap ((D.blocks : Nat) : Int) = (D.blocks : Nat) := wrap_id (by omega) (by omega)
  clear h
  go_enter Try.func23, Try.ntmps23
  go_upto_region 1 with fail
  go_still (by kernel_rfl)
  go_wp2_with fail
  go_ret
  exact ⟨rfl, rfl⟩
set_option maxHeartbeats 1000000 in
set_option maxRecDepth 100000 in
theorem geom_any (h : DvM w d D) : Calls Try.prog 32 #[.pointer (some ⟨d.g, 0, none⟩)] w fun e w' => e = .returned (.agg #[.int .i64 D.unit, .int .i64 D.scr]) ∧ Below w.heap.size w w' := by
  have g0 : w.cell? ⟨d.g, 0, none⟩ = some (.int .i64 D.unit) := (h.cell 0).trans rfl
  have g1 : w.cell? ⟨d.g, 1, none⟩ = some (.int .i64 D.scr) := (h.cell 1).trans rfl
  have hgl := blk_lt h.hg
  have hal := (Below.refl _ w).alloc (Nat.le_refl _) (.cells #[.int .i64 0, .int .i64 0] 29)
  have g0' : (w.alloc (.cells #[.int .i64 0, .int .i64 0] 29)).cell? ⟨d.g, 0, none⟩ = some (.int .i64 D.unit) := (hal.cell (p := ⟨d.g, 0, none⟩) hgl).trans g0
  have g1' : (w.alloc (.cells #[.int .i64 0, .int .i64 0] 29)).cell? ⟨d.g, 1, none⟩ = some (.int .i64 D.scr) := (hal.cell (p := ⟨d.g, 1, none⟩) hgl).trans g1
  have HAL := hid hal
  clear h hal
  go_enter Try.func32, Try.ntmps32
  go_wp2_with fail
  refine bodyPost_ret (v := .agg #[.int .i64 D.unit, .int .i64 D.scr]) (by simp [results, Try.results32, go_sem]) rfl ?_
  exact ⟨rfl, (Below.refl _ w).alloc (Nat.le_refl _) _⟩
set_option maxHeartbeats 1000000 in
set_option maxRecDepth 100000 in
theorem block_any (h : DvM w d D) (b : Nat) (hb : b < D.scr) : Calls Try.prog 68 #[.pointer (some ⟨d.g, 0, none⟩), .int .i64 (b : Int)] w fun e w' => e = .returned (.slice (some ⟨d.sb, b * D.unit, none⟩) D.unit (D.unit * D.scr - b * D.unit)) ∧ w' = w.drew := by
  have g0 : w.cell? ⟨d.g, 0, none⟩ = some (.int .i64 D.unit) := (h.cell 0).trans rfl
  have g3 : w.cell? ⟨d.g, 3, none⟩ = some (.slice (some ⟨d.sb, 0, none⟩) (D.unit * D.scr) (D.unit * D.scr)) := (h.cell 3).trans rfl
  have u0 := h.u0
  have u1 := h.u1
  have s1 := h.s1
  obtain ⟨U, hU⟩ : ∃ U, U = D.unit := ⟨_, rfl⟩
  obtain ⟨S, hS⟩ : ∃ S, S = D.scr := ⟨_, rfl⟩
  rw [← hU] at g0 g3 u0 u1 ⊢
  rw [← hS] at g3 s1 hb ⊢
  clear hU hS h
  obtain ⟨m, hm⟩ : ∃ m, m = b * U := ⟨_, rfl⟩
  obtain ⟨T, hT⟩ : ∃ T, T = U * S := ⟨_, rfl⟩
  have hle : m + U ≤ T := by
    have := Nat.mul_le_mul_right U (show b + 1 ≤ S by omega)
    rw [Nat.add_mul, Nat.one_mul, Nat.mul_comm S U] at this
    omega
  have hTb : T ≤ 4194304 := by
    have := Nat.mul_le_mul u1 s1
    omega
  rw [← hT] at g3 ⊢
  rw [← hm]
  have hm1 : (b : Int) * (U : Int) = (m : Nat) := by rw [hm, Int.natCast_mul]
  have hm2 : ((b : Int) + 1) * (U : Int) = (m : Int) + (U : Int) := by rw [Int.add_mul, hm1]; simp
  have hw1 : IntKind.i64.wrap ((m : Nat) : Int) = (m : Nat) := wrap_id (by omega) (by omega)
  have hw2 : IntKind.i64.wrap ((m : Int) + (U : Int)) = (m : Int) + (U : Int) := wrap_id (by omega) (by omega)
  have hp1 : 0 ≤ (m : Int) + (U : Int) := by omega
  have hp2 : (m : Int) + (U : Int) ≤ (T : Int) := by omega
  have hp3 : ((m : Int) + (U : Int)).toNat = m + U := by omega
  have hp4 : ¬ T = m := by omega
  have hp5 : m + U - m = U := by omega
  have hw3 : IntKind.i64.wrap ((b : Int) + 1) = (b : Int) + 1 := wrap_id (by omega) (by omega)
  have hU0 : ¬ U = 0 := by omega
  clear hm hT
  go_enter Try.func68, Try.ntmps68
  go_upto_region 1 with fail
  go_still (by kernel_rfl)
  go_wp2_with fail
  go_ret
  exact ⟨rfl, rfl⟩
end
end Go.Proofs.Ytkhejipcclpknaa
