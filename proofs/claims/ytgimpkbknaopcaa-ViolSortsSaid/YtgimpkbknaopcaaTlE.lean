/- Two tallies compared. No statement is proved here. -/
import Derived.Test.YtgimpkbknaopcaaTally
import Derived.ChangeKeysEq
set_option linter.unusedVariables false
set_option linter.unusedSimpArgs false
namespace Go.Proofs.Ytgimpkbknaopcaa
open Go.RowKit
theorem infoInt : ∃ i, Try.prog.info? 3 = some i ∧ i.size = 1 := by
  have h : (Try.prog.info? 3).map (·.size) = some 1 := by kernel_rfl
  cases hh : Try.prog.info? 3 with
  | none => rw [hh] at h; cases h
  | some i => rw [hh] at h; exact ⟨i, rfl, Option.some.inj h⟩
set_option maxHeartbeats 4000000 in
theorem eqT_run (l : List V) (W : World) : (binOp .eql 46 (.agg (cellsT l)) (.agg (cellsT l))).run Try.prog W = .ok (.bool true) W := by
  obtain ⟨i, hi, hz⟩ := infoInt
  have hc : Try.prog.cellsOf 3 = 1 := by kernel_rfl
  have h := run_equalIn_array W 9999 (P := Try.prog) (t := 46) (e := 3) (n := 11) (cellsT l) (cellsT l) Try.underlying46 hi
  rw [run_eql_struct, h, hc]
  unfold cellsT
  simp [go_sem, Op.eqItems, List.range, List.range.loop, part, Try.isAgg3]
end Go.Proofs.Ytgimpkbknaopcaa
