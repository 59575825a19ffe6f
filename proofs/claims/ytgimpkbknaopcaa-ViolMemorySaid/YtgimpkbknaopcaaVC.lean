/- The document's Valid. No statement is proved here. -/
import Derived.Test.YtgimpkbknaopcaaVB
set_option linter.unusedVariables false
set_option linter.unusedSimpArgs false
namespace Go.Proofs.Ytgimpkbknaopcaa
open Go.RowKit

set_option maxHeartbeats 4000000 in
set_option maxRecDepth 100000 in
theorem rvalid_laid (v : V) (w : World) : Calls Try.prog 12 #[v.agg] w fun e w' => e = .returned (.bool (validB v)) ∧ Laid w w' := by
  by_cases h0 : v.kind < 1
  case pos =>
    have d0 : decide (v.kind < 1) = true := decide_eq_true h0
    have hv : validB v = false := by simp [validB, inB]; omega
    rw [hv]
    clear hv
    go_enter Try.func12, Try.ntmps12
    go_wp2_with fail
    go_ret
    exact ⟨rfl, (Laid.refl _).alloc _⟩
  have d0 : decide (v.kind < 1) = false := decide_eq_false h0
  by_cases h1 : 10 < v.kind
  case pos =>
    have d1 : decide (10 < v.kind) = true := decide_eq_true h1
    have hv : validB v = false := by simp [validB, inB]; omega
    rw [hv]
    clear hv
    go_enter Try.func12, Try.ntmps12
    go_wp2_with fail
    go_ret
    exact ⟨rfl, (Laid.refl _).alloc _⟩
  have d1 : decide (10 < v.kind) = false := decide_eq_false h1
  by_cases h2 : v.txn < 0
  case pos =>
    have d2 : decide (v.txn < 0) = true := decide_eq_true h2
    have hv : validB v = false := by simp [validB, inB]; omega
    rw [hv]
    clear hv
    go_enter Try.func12, Try.ntmps12
    go_wp2_with fail
    go_ret
    exact ⟨rfl, (Laid.refl _).alloc _⟩
  have d2 : decide (v.txn < 0) = false := decide_eq_false h2
  by_cases h3 : 4095 < v.txn
  case pos =>
    have d3 : decide (4095 < v.txn) = true := decide_eq_true h3
    have hv : validB v = false := by simp [validB, inB]; omega
    rw [hv]
    clear hv
    go_enter Try.func12, Try.ntmps12
    go_wp2_with fail
    go_ret
    exact ⟨rfl, (Laid.refl _).alloc _⟩
  have d3 : decide (4095 < v.txn) = false := decide_eq_false h3
  by_cases h4 : v.wit < -1
  case pos =>
    have d4 : decide (v.wit < -1) = true := decide_eq_true h4
    have hv : validB v = false := by simp [validB, inB]; omega
    rw [hv]
    clear hv
    go_enter Try.func12, Try.ntmps12
    go_wp2_with fail
    go_ret
    exact ⟨rfl, (Laid.refl _).alloc _⟩
  have d4 : decide (v.wit < -1) = false := decide_eq_false h4
  by_cases h5 : 4095 < v.wit
  case pos =>
    have d5 : decide (4095 < v.wit) = true := decide_eq_true h5
    have hv : validB v = false := by simp [validB, inB]; omega
    rw [hv]
    clear hv
    go_enter Try.func12, Try.ntmps12
    go_wp2_with fail
    go_ret
    exact ⟨rfl, (Laid.refl _).alloc _⟩
  have d5 : decide (4095 < v.wit) = false := decide_eq_false h5
  by_cases h6 : v.op < -1
  case pos =>
    have d6 : decide (v.op < -1) = true := decide_eq_true h6
    have hv : validB v = false := by simp [validB, inB]; omega
    rw [hv]
    clear hv
    go_enter Try.func12, Try.ntmps12
    go_wp2_with fail
    go_ret
    exact ⟨rfl, (Laid.refl _).alloc _⟩
  have d6 : decide (v.op < -1) = false := decide_eq_false h6
  by_cases h7 : 15 < v.op
  case pos =>
    have d7 : decide (15 < v.op) = true := decide_eq_true h7
    have hv : validB v = false := by simp [validB, inB]; omega
    rw [hv]
    clear hv
    go_enter Try.func12, Try.ntmps12
    go_wp2_with fail
    go_ret
    exact ⟨rfl, (Laid.refl _).alloc _⟩
  have d7 : decide (15 < v.op) = false := decide_eq_false h7
  by_cases h8 : v.time < 0
  case pos =>
    have d8 : decide (v.time < 0) = true := decide_eq_true h8
    have hv : validB v = false := by simp [validB, inB]; omega
    rw [hv]
    clear hv
    go_enter Try.func12, Try.ntmps12
    go_wp2_with fail
    go_ret
    exact ⟨rfl, (Laid.refl _).alloc _⟩
  have d8 : decide (v.time < 0) = false := decide_eq_false h8
  by_cases h9 : 1099511627776 < v.time
  case pos =>
    have d9 : decide (1099511627776 < v.time) = true := decide_eq_true h9
    have hv : validB v = false := by simp [validB, inB]; omega
    rw [hv]
    clear hv
    go_enter Try.func12, Try.ntmps12
    go_wp2_with fail
    go_ret
    exact ⟨rfl, (Laid.refl _).alloc _⟩
  have d9 : decide (1099511627776 < v.time) = false := decide_eq_false h9
  by_cases h10 : v.frm < 0
  case pos =>
    have d10 : decide (v.frm < 0) = true := decide_eq_true h10
    have hv : validB v = false := by simp [validB, inB]; omega
    rw [hv]
    clear hv
    go_enter Try.func12, Try.ntmps12
    go_wp2_with fail
    go_ret
    exact ⟨rfl, (Laid.refl _).alloc _⟩
  have d10 : decide (v.frm < 0) = false := decide_eq_false h10
  by_cases h11 : 1099511627776 < v.frm
  case pos =>
    have d11 : decide (1099511627776 < v.frm) = true := decide_eq_true h11
    have hv : validB v = false := by simp [validB, inB]; omega
    rw [hv]
    clear hv
    go_enter Try.func12, Try.ntmps12
    go_wp2_with fail
    go_ret
    exact ⟨rfl, (Laid.refl _).alloc _⟩
  have d11 : decide (1099511627776 < v.frm) = false := decide_eq_false h11
  by_cases h12 : v.to < 0
  case pos =>
    have d12 : decide (v.to < 0) = true := decide_eq_true h12
    have hv : validB v = false := by simp [validB, inB]; omega
    rw [hv]
    clear hv
    go_enter Try.func12, Try.ntmps12
    go_wp2_with fail
    go_ret
    exact ⟨rfl, (Laid.refl _).alloc _⟩
  have d12 : decide (v.to < 0) = false := decide_eq_false h12
  by_cases h13 : 1099511627776 < v.to
  case pos =>
    have d13 : decide (1099511627776 < v.to) = true := decide_eq_true h13
    have hv : validB v = false := by simp [validB, inB]; omega
    rw [hv]
    clear hv
    go_enter Try.func12, Try.ntmps12
    go_wp2_with fail
    go_ret
    exact ⟨rfl, (Laid.refl _).alloc _⟩
  have d13 : decide (1099511627776 < v.to) = false := decide_eq_false h13
  by_cases h14 : (8 : Int) < (v.key.size : Int)
  case pos =>
    have d14 : decide ((8 : Int) < (v.key.size : Int)) = true := decide_eq_true h14
    have hv : validB v = false := by simp [validB, inB]; omega
    rw [hv]
    clear hv
    go_enter Try.func12, Try.ntmps12
    go_wp2_with fail
    go_ret
    exact ⟨rfl, (Laid.refl _).alloc _⟩
  have d14 : decide ((8 : Int) < (v.key.size : Int)) = false := decide_eq_false h14
  by_cases h15 : (16 : Int) < (v.exp.size : Int)
  case pos =>
    have d15 : decide ((16 : Int) < (v.exp.size : Int)) = true := decide_eq_true h15
    have hv : validB v = false := by simp [validB, inB]; omega
    rw [hv]
    clear hv
    go_enter Try.func12, Try.ntmps12
    go_wp2_with fail
    go_ret
    exact ⟨rfl, (Laid.refl _).alloc _⟩
  have d15 : decide ((16 : Int) < (v.exp.size : Int)) = false := decide_eq_false h15
  by_cases h16 : (16 : Int) < (v.obs.size : Int)
  case pos =>
    have d16 : decide ((16 : Int) < (v.obs.size : Int)) = true := decide_eq_true h16
    have hv : validB v = false := by simp [validB, inB]; omega
    rw [hv]
    clear hv
    go_enter Try.func12, Try.ntmps12
    go_wp2_with fail
    go_ret
    exact ⟨rfl, (Laid.refl _).alloc _⟩
  have d16 : decide ((16 : Int) < (v.obs.size : Int)) = false := decide_eq_false h16
  have hin : inB v.kind 1 10 = true ∧ inB v.time 0 1099511627776 = true ∧ inB v.frm 0 1099511627776 = true ∧ inB v.to 0 1099511627776 = true ∧ inB v.txn 0 4095 = true ∧ inB v.wit (-1) 4095 = true ∧ inB v.op (-1) 15 = true ∧ v.key.size ≤ 8 ∧ v.exp.size ≤ 16 ∧ v.obs.size ≤ 16 := by
    simp [inB]
    omega
  have Hin := hid hin
  clear hin
  cases ww : v.want with
  | false =>
    by_cases we : v.exp.size = 0
    case neg =>
      have we1 : decide ((0 : Int) < (v.exp.size : Int)) = true := decide_eq_true (by omega)
      have we3 : decide (0 < v.exp.size) = true := decide_eq_true (by omega)
      have hv : validB v = false := by simp [validB, Hin.out.1, Hin.out.2.1, Hin.out.2.2.1, Hin.out.2.2.2.1, Hin.out.2.2.2.2.1, Hin.out.2.2.2.2.2.1, Hin.out.2.2.2.2.2.2.1, Hin.out.2.2.2.2.2.2.2.1, Hin.out.2.2.2.2.2.2.2.2.1, Hin.out.2.2.2.2.2.2.2.2.2, ww, we]
      rw [hv]
      clear hv
      go_enter Try.func12, Try.ntmps12
      go_wp2_with fail
      go_ret
      exact ⟨rfl, (Laid.refl _).alloc _⟩
    have we1 : decide ((0 : Int) < (v.exp.size : Int)) = false := decide_eq_false (by omega)
    have we3 : decide (0 < v.exp.size) = false := decide_eq_false (by omega)
    have We := hid we
    clear we
    cases gg : v.got with
    | true =>
      have hv : validB v = true := by simp [validB, Hin.out.1, Hin.out.2.1, Hin.out.2.2.1, Hin.out.2.2.2.1, Hin.out.2.2.2.2.1, Hin.out.2.2.2.2.2.1, Hin.out.2.2.2.2.2.2.1, Hin.out.2.2.2.2.2.2.2.1, Hin.out.2.2.2.2.2.2.2.2.1, Hin.out.2.2.2.2.2.2.2.2.2, ww, We.out, gg]
      rw [hv]
      clear hv
      go_enter Try.func12, Try.ntmps12
      go_wp2_with fail
      go_ret
      exact ⟨rfl, (Laid.refl _).alloc _⟩
    | false =>
      by_cases ge : v.obs.size = 0
      · have ge1 : ((v.obs.size : Int) == 0) = true := by rw [ge]; rfl
        have ge2 : (v.obs.size == 0) = true := by rw [ge]; rfl
        have ge5 : decide (v.obs.size = 0) = true := decide_eq_true ge
        have ge3 : v.obs = ByteArray.empty := ByteArray.size_eq_zero_iff.1 ge
        have ge4 : decide (v.obs = ByteArray.empty) = true := decide_eq_true ge3
        have Ge := hid ge
        clear ge
        have hv : validB v = true := by simp [validB, Hin.out.1, Hin.out.2.1, Hin.out.2.2.1, Hin.out.2.2.2.1, Hin.out.2.2.2.2.1, Hin.out.2.2.2.2.2.1, Hin.out.2.2.2.2.2.2.1, Hin.out.2.2.2.2.2.2.2.1, Hin.out.2.2.2.2.2.2.2.2.1, Hin.out.2.2.2.2.2.2.2.2.2, ww, We.out, gg, Ge.out]
        rw [hv]
        clear hv
        go_enter Try.func12, Try.ntmps12
        go_wp2_with fail
        go_ret
        exact ⟨rfl, (Laid.refl _).alloc _⟩
      · have ge1 : ((v.obs.size : Int) == 0) = false := beq_eq_false_iff_ne.mpr (by omega)
        have ge2 : (v.obs.size == 0) = false := beq_eq_false_iff_ne.mpr ge
        have ge5 : decide (v.obs.size = 0) = false := decide_eq_false ge
        have ge3 : ¬ v.obs = ByteArray.empty := fun h => ge (ByteArray.size_eq_zero_iff.2 h)
        have ge4 : decide (v.obs = ByteArray.empty) = false := decide_eq_false ge3
        have hv : validB v = false := by simp [validB, Hin.out.1, Hin.out.2.1, Hin.out.2.2.1, Hin.out.2.2.2.1, Hin.out.2.2.2.2.1, Hin.out.2.2.2.2.2.1, Hin.out.2.2.2.2.2.2.1, Hin.out.2.2.2.2.2.2.2.1, Hin.out.2.2.2.2.2.2.2.2.1, Hin.out.2.2.2.2.2.2.2.2.2, ww, We.out, gg, ge]
        rw [hv]
        clear hv
        go_enter Try.func12, Try.ntmps12
        go_wp2_with fail
        go_ret
        exact ⟨rfl, (Laid.refl _).alloc _⟩
  | true =>
    cases gg : v.got with
    | true =>
      have hv : validB v = true := by simp [validB, Hin.out.1, Hin.out.2.1, Hin.out.2.2.1, Hin.out.2.2.2.1, Hin.out.2.2.2.2.1, Hin.out.2.2.2.2.2.1, Hin.out.2.2.2.2.2.2.1, Hin.out.2.2.2.2.2.2.2.1, Hin.out.2.2.2.2.2.2.2.2.1, Hin.out.2.2.2.2.2.2.2.2.2, ww, gg]
      rw [hv]
      clear hv
      go_enter Try.func12, Try.ntmps12
      go_wp2_with fail
      go_ret
      exact ⟨rfl, (Laid.refl _).alloc _⟩
    | false =>
      by_cases ge : v.obs.size = 0
      · have ge1 : ((v.obs.size : Int) == 0) = true := by rw [ge]; rfl
        have ge2 : (v.obs.size == 0) = true := by rw [ge]; rfl
        have ge5 : decide (v.obs.size = 0) = true := decide_eq_true ge
        have ge3 : v.obs = ByteArray.empty := ByteArray.size_eq_zero_iff.1 ge
        have ge4 : decide (v.obs = ByteArray.empty) = true := decide_eq_true ge3
        have Ge := hid ge
        clear ge
        have hv : validB v = true := by simp [validB, Hin.out.1, Hin.out.2.1, Hin.out.2.2.1, Hin.out.2.2.2.1, Hin.out.2.2.2.2.1, Hin.out.2.2.2.2.2.1, Hin.out.2.2.2.2.2.2.1, Hin.out.2.2.2.2.2.2.2.1, Hin.out.2.2.2.2.2.2.2.2.1, Hin.out.2.2.2.2.2.2.2.2.2, ww, gg, Ge.out]
        rw [hv]
        clear hv
        go_enter Try.func12, Try.ntmps12
        go_wp2_with fail
        go_ret
        exact ⟨rfl, (Laid.refl _).alloc _⟩
      · have ge1 : ((v.obs.size : Int) == 0) = false := beq_eq_false_iff_ne.mpr (by omega)
        have ge2 : (v.obs.size == 0) = false := beq_eq_false_iff_ne.mpr ge
        have ge5 : decide (v.obs.size = 0) = false := decide_eq_false ge
        have ge3 : ¬ v.obs = ByteArray.empty := fun h => ge (ByteArray.size_eq_zero_iff.2 h)
        have ge4 : decide (v.obs = ByteArray.empty) = false := decide_eq_false ge3
        have hv : validB v = false := by simp [validB, Hin.out.1, Hin.out.2.1, Hin.out.2.2.1, Hin.out.2.2.2.1, Hin.out.2.2.2.2.1, Hin.out.2.2.2.2.2.1, Hin.out.2.2.2.2.2.2.1, Hin.out.2.2.2.2.2.2.2.1, Hin.out.2.2.2.2.2.2.2.2.1, Hin.out.2.2.2.2.2.2.2.2.2, ww, gg, ge]
        rw [hv]
        clear hv
        go_enter Try.func12, Try.ntmps12
        go_wp2_with fail
        go_ret
        exact ⟨rfl, (Laid.refl _).alloc _⟩
theorem rvalid_any (v : V) (w : World) : Calls Try.prog 12 #[v.agg] w fun e w' => e = .returned (.bool (validB v)) ∧ Below w.heap.size w w' :=
  (rvalid_laid v w).mono fun e w' h => ⟨h.1, h.2.below⟩
end Go.Proofs.Ytgimpkbknaopcaa
