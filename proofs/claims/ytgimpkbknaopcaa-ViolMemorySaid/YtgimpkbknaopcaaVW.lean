/- The document's Before. No statement is proved here. -/
import Derived.Test.YtgimpkbknaopcaaVT
import Derived.Test.YtgimpkbknaopcaaWC
set_option linter.unusedVariables false
set_option linter.unusedSimpArgs false
namespace Go.Proofs.Ytgimpkbknaopcaa
open Go.RowKit

set_option maxHeartbeats 4000000 in
set_option maxRecDepth 1000000 in
theorem before_any (a b : V) (w : World) : Calls Try.prog 21 #[a.agg, b.agg] w fun e w' => e = .returned (.bool (decide (ltV a b))) ∧ Laid w w' := by
  obtain ⟨R, hR⟩ : ∃ R, R = decide (ltV a b) := ⟨_, rfl⟩
  rw [← hR]
  have HR := hid hR
  clear hR
  go_enter Try.func21, Try.ntmps21
  go_wp2_with fail
  have hb : Laid w ((((w.alloc (.cells #[.int .i64 a.kind, .int .i64 a.time, .int .i64 a.txn, .int .i64 a.op, .int .i64 a.wit, .string a.key, .bool a.want, .string a.exp, .bool a.got, .string a.obs, .int .i64 a.frm, .int .i64 a.to] 30)).alloc (.cells #[.int .i64 b.kind, .int .i64 b.time, .int .i64 b.txn, .int .i64 b.op, .int .i64 b.wit, .string b.key, .bool b.want, .string b.exp, .bool b.got, .string b.obs, .int .i64 b.frm, .int .i64 b.to] 30)).alloc (.cells #[.int .i64 a.time, .int .i64 a.kind, .int .i64 a.txn, .int .i64 a.op] 66)).alloc (.cells #[.int .i64 b.time, .int .i64 b.kind, .int .i64 b.txn, .int .i64 b.op] 66)) := ((((Laid.refl _).alloc _).alloc _).alloc _).alloc _
  have hx := heap_alloc2_old ((w.alloc (.cells #[.int .i64 a.kind, .int .i64 a.time, .int .i64 a.txn, .int .i64 a.op, .int .i64 a.wit, .string a.key, .bool a.want, .string a.exp, .bool a.got, .string a.obs, .int .i64 a.frm, .int .i64 a.to] 30)).alloc (.cells #[.int .i64 b.kind, .int .i64 b.time, .int .i64 b.txn, .int .i64 b.op, .int .i64 b.wit, .string b.key, .bool b.want, .string b.exp, .bool b.got, .string b.obs, .int .i64 b.frm, .int .i64 b.to] 30)) (.cells #[.int .i64 a.time, .int .i64 a.kind, .int .i64 a.txn, .int .i64 a.op] 66) (.cells #[.int .i64 b.time, .int .i64 b.kind, .int .i64 b.txn, .int .i64 b.op] 66)
  have hy := heap_alloc2_new ((w.alloc (.cells #[.int .i64 a.kind, .int .i64 a.time, .int .i64 a.txn, .int .i64 a.op, .int .i64 a.wit, .string a.key, .bool a.want, .string a.exp, .bool a.got, .string a.obs, .int .i64 a.frm, .int .i64 a.to] 30)).alloc (.cells #[.int .i64 b.kind, .int .i64 b.time, .int .i64 b.txn, .int .i64 b.op, .int .i64 b.wit, .string b.key, .bool b.want, .string b.exp, .bool b.got, .string b.obs, .int .i64 b.frm, .int .i64 b.to] 30)) (.cells #[.int .i64 a.time, .int .i64 a.kind, .int .i64 a.txn, .int .i64 a.op] 66) (.cells #[.int .i64 b.time, .int .i64 b.kind, .int .i64 b.txn, .int .i64 b.op] 66)
  have e : ((w.alloc (.cells #[.int .i64 a.kind, .int .i64 a.time, .int .i64 a.txn, .int .i64 a.op, .int .i64 a.wit, .string a.key, .bool a.want, .string a.exp, .bool a.got, .string a.obs, .int .i64 a.frm, .int .i64 a.to] 30)).alloc (.cells #[.int .i64 b.kind, .int .i64 b.time, .int .i64 b.txn, .int .i64 b.op, .int .i64 b.wit, .string b.key, .bool b.want, .string b.exp, .bool b.got, .string b.obs, .int .i64 b.frm, .int .i64 b.to] 30)).heap.size = w.heap.size + 1 + 1 := by simp
  rw [e] at hx hy
  clear e
  have HB := hid hb
  have HX := hid hx
  have HY := hid hy
  clear hb hx hy
  generalize hw4 : (((w.alloc (.cells #[.int .i64 a.kind, .int .i64 a.time, .int .i64 a.txn, .int .i64 a.op, .int .i64 a.wit, .string a.key, .bool a.want, .string a.exp, .bool a.got, .string a.obs, .int .i64 a.frm, .int .i64 a.to] 30)).alloc (.cells #[.int .i64 b.kind, .int .i64 b.time, .int .i64 b.txn, .int .i64 b.op, .int .i64 b.wit, .string b.key, .bool b.want, .string b.exp, .bool b.got, .string b.obs, .int .i64 b.frm, .int .i64 b.to] 30)).alloc (.cells #[.int .i64 a.time, .int .i64 a.kind, .int .i64 a.txn, .int .i64 a.op] 66)).alloc (.cells #[.int .i64 b.time, .int .i64 b.kind, .int .i64 b.txn, .int .i64 b.op] 66) = w4 at *
  clear hw4
  generalize hbx : w.heap.size + 1 + 1 = bx at *
  clear hbx
  generalize hby : bx + 1 = by_ at *
  clear hby
  go_loopw [7] (fun i wx => ∃ k : Nat, k ≤ 4 ∧ i = .int .i64 k ∧ Hid ((1 ≤ k → a.time = b.time) ∧ (2 ≤ k → a.kind = b.kind) ∧ (3 ≤ k → a.txn = b.txn) ∧ (4 ≤ k → a.op = b.op)) ∧ Hid (wx.heap[bx]? = some (.cells #[.int .i64 a.time, .int .i64 a.kind, .int .i64 a.txn, .int .i64 a.op] 66 (0, 0))) ∧ Hid (wx.heap[by_]? = some (.cells #[.int .i64 b.time, .int .i64 b.kind, .int .i64 b.txn, .int .i64 b.op] 66 (0, 0))) ∧ Hid (Laid w wx)) (fun i _ => 4 - (intOf i).toNat)
  case atStart => exact ⟨0, by omega, rfl, hid ⟨fun h => by omega, fun h => by omega, fun h => by omega, fun h => by omega⟩, HX, HY, HB⟩
  case round =>
    clear HX HY HB
    obtain ⟨k, hk, rfl, H, HX, HY, HBr⟩ := hrel
    have x0 : wr.cell? ⟨bx, 0, none⟩ = some (.int .i64 a.time) := (blk_cell HX.out 0).trans rfl
    have x1 : wr.cell? ⟨bx, 1, none⟩ = some (.int .i64 a.kind) := (blk_cell HX.out 1).trans rfl
    have x2 : wr.cell? ⟨bx, 2, none⟩ = some (.int .i64 a.txn) := (blk_cell HX.out 2).trans rfl
    have x3 : wr.cell? ⟨bx, 3, none⟩ = some (.int .i64 a.op) := (blk_cell HX.out 3).trans rfl
    have y0 : wr.cell? ⟨by_, 0, none⟩ = some (.int .i64 b.time) := (blk_cell HY.out 0).trans rfl
    have y1 : wr.cell? ⟨by_, 1, none⟩ = some (.int .i64 b.kind) := (blk_cell HY.out 1).trans rfl
    have y2 : wr.cell? ⟨by_, 2, none⟩ = some (.int .i64 b.txn) := (blk_cell HY.out 2).trans rfl
    have y3 : wr.cell? ⟨by_, 3, none⟩ = some (.int .i64 b.op) := (blk_cell HY.out 3).trans rfl
    obtain rfl | rfl | rfl | rfl | rfl : k = 0 ∨ k = 1 ∨ k = 2 ∨ k = 3 ∨ k = 4 := by omega
    · by_cases hz : a.time = b.time
      · have hz' : (a.time == b.time) = true := by rw [hz]; exact beq_self_eq_true _
        have hz'' : (a.time != b.time) = false := by simp [hz]
        have Hz := hid hz
        clear hz
        go_upto_region 6 with fail
        go_quiet (fail)
        go_wp2_with fail
        exact ⟨⟨1, by omega, by first | rfl | trivial, hid ⟨fun h => Hz.out, fun h => by omega, fun h => by omega, fun h => by omega⟩, HX, HY, hid (HBr.out.drewN nq)⟩, by simp [intOf]⟩
      · have hz' : (a.time == b.time) = false := beq_eq_false_iff_ne.mpr hz
        have hz'' : (a.time != b.time) = true := by simp [hz]
        have hr : R = decide (a.time < b.time) := by
          rw [HR.out]
          obtain ⟨h1, h2, h3, h4⟩ := H.out
          
          apply decide_eq_decide.2
          unfold ltV
          omega
        have Hr := hid hr
        clear hr
        go_upto_region 6 with fail
        go_quiet (fail)
        go_upto_region 7 with fail
        go_quiet (fail)
        go_wp2_with fail
        go_ret
        exact ⟨by rw [Hr.out]; rfl, (HBr.out.drewN _).drewN _⟩
    · by_cases hz : a.kind = b.kind
      · have hz' : (a.kind == b.kind) = true := by rw [hz]; exact beq_self_eq_true _
        have hz'' : (a.kind != b.kind) = false := by simp [hz]
        have Hz := hid hz
        clear hz
        go_upto_region 6 with fail
        go_quiet (fail)
        go_wp2_with fail
        exact ⟨⟨2, by omega, by first | rfl | trivial, hid ⟨fun h => H.out.1 (by omega), fun h => Hz.out, fun h => by omega, fun h => by omega⟩, HX, HY, hid (HBr.out.drewN nq)⟩, by simp [intOf]⟩
      · have hz' : (a.kind == b.kind) = false := beq_eq_false_iff_ne.mpr hz
        have hz'' : (a.kind != b.kind) = true := by simp [hz]
        have hr : R = decide (a.kind < b.kind) := by
          rw [HR.out]
          obtain ⟨h1, h2, h3, h4⟩ := H.out
          have g0 := h1 (by omega); 
          apply decide_eq_decide.2
          unfold ltV
          omega
        have Hr := hid hr
        clear hr
        go_upto_region 6 with fail
        go_quiet (fail)
        go_upto_region 7 with fail
        go_quiet (fail)
        go_wp2_with fail
        go_ret
        exact ⟨by rw [Hr.out]; rfl, (HBr.out.drewN _).drewN _⟩
    · by_cases hz : a.txn = b.txn
      · have hz' : (a.txn == b.txn) = true := by rw [hz]; exact beq_self_eq_true _
        have hz'' : (a.txn != b.txn) = false := by simp [hz]
        have Hz := hid hz
        clear hz
        go_upto_region 6 with fail
        go_quiet (fail)
        go_wp2_with fail
        exact ⟨⟨3, by omega, by first | rfl | trivial, hid ⟨fun h => H.out.1 (by omega), fun h => H.out.2.1 (by omega), fun h => Hz.out, fun h => by omega⟩, HX, HY, hid (HBr.out.drewN nq)⟩, by simp [intOf]⟩
      · have hz' : (a.txn == b.txn) = false := beq_eq_false_iff_ne.mpr hz
        have hz'' : (a.txn != b.txn) = true := by simp [hz]
        have hr : R = decide (a.txn < b.txn) := by
          rw [HR.out]
          obtain ⟨h1, h2, h3, h4⟩ := H.out
          have g0 := h1 (by omega); have g1 := h2 (by omega); 
          apply decide_eq_decide.2
          unfold ltV
          omega
        have Hr := hid hr
        clear hr
        go_upto_region 6 with fail
        go_quiet (fail)
        go_upto_region 7 with fail
        go_quiet (fail)
        go_wp2_with fail
        go_ret
        exact ⟨by rw [Hr.out]; rfl, (HBr.out.drewN _).drewN _⟩
    · by_cases hz : a.op = b.op
      · have hz' : (a.op == b.op) = true := by rw [hz]; exact beq_self_eq_true _
        have hz'' : (a.op != b.op) = false := by simp [hz]
        have Hz := hid hz
        clear hz
        go_upto_region 6 with fail
        go_quiet (fail)
        go_wp2_with fail
        exact ⟨⟨4, by omega, by first | rfl | trivial, hid ⟨fun h => H.out.1 (by omega), fun h => H.out.2.1 (by omega), fun h => H.out.2.2.1 (by omega), fun h => Hz.out⟩, HX, HY, hid (HBr.out.drewN nq)⟩, by simp [intOf]⟩
      · have hz' : (a.op == b.op) = false := beq_eq_false_iff_ne.mpr hz
        have hz'' : (a.op != b.op) = true := by simp [hz]
        have hr : R = decide (a.op < b.op) := by
          rw [HR.out]
          obtain ⟨h1, h2, h3, h4⟩ := H.out
          have g0 := h1 (by omega); have g1 := h2 (by omega); have g2 := h3 (by omega); 
          apply decide_eq_decide.2
          unfold ltV
          omega
        have Hr := hid hr
        clear hr
        go_upto_region 6 with fail
        go_quiet (fail)
        go_upto_region 7 with fail
        go_quiet (fail)
        go_wp2_with fail
        go_ret
        exact ⟨by rw [Hr.out]; rfl, (HBr.out.drewN _).drewN _⟩
    · have hr : R = false := by
        rw [HR.out]
        obtain ⟨h1, h2, h3, h4⟩ := H.out
        have g1 := h1 (by omega); have g2 := h2 (by omega); have g3 := h3 (by omega); have g4 := h4 (by omega)
        apply decide_eq_false
        unfold ltV
        omega
      go_wp2_with fail
      go_ret
      exact ⟨by rw [hr]; rfl, HBr.out⟩
end Go.Proofs.Ytgimpkbknaopcaa
