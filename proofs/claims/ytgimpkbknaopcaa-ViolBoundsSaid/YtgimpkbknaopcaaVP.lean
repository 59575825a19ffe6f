/- The walk of ViolBounds. No statement is proved here. -/
import Derived.Test.YtgimpkbknaopcaaVOb
set_option linter.unusedVariables false
set_option linter.unusedSimpArgs false
namespace Go.Proofs.Ytgimpkbknaopcaa
open Go.RowKit Go.Shelf Go.Lib
open Go.Sort hiding Below

def v_b0n : V := ⟨10, 5, 3, 1, 2, ⟨#[107]⟩, true, ⟨#[120]⟩, true, ⟨#[121]⟩, 4, 6⟩
theorem ok_b0n : validB v_b0n = true := by decide
set_option maxHeartbeats 4000000 in
set_option maxRecDepth 1000000 in
theorem b0n (w : World) : Calls Try.prog 5 #[.int .i64 0, .bool false] w fun e w' => e = .returned (.bool true) ∧ Below w.heap.size w w' := by
  go_enter Try.func5, Try.ntmps5
  go_wp2_with fail
  refine (anchor_any _).mono ?_
  rintro e w1 ⟨rfl, hb1⟩
  go_wp2_with fail
  refine (new_good 3 _ (by omega) (by omega)).mono ?_
  rintro e w2 ⟨t, rfl, hT, hb⟩
  have hb0 := hid (hb1.alloc hb1.size (.cells #[.int .i64 v_b0n.kind, .int .i64 v_b0n.time, .int .i64 v_b0n.txn, .int .i64 v_b0n.op, .int .i64 v_b0n.wit, .string v_b0n.key, .bool v_b0n.want, .string v_b0n.exp, .bool v_b0n.got, .string v_b0n.obs, .int .i64 v_b0n.frm, .int .i64 v_b0n.to] 30))
  have hx := (hb.block w1.heap.size (by simp)).trans (heap_alloc_new w1 _)
  have T1 := hid hT
  have hb2 := hid (hb0.out.trans (hb.mono hb0.out.size))
  have hB := hid hb.size
  have hW := hid hb0.out.size
  have hBx := hid (show w1.heap.size < (w1.alloc (.cells #[.int .i64 v_b0n.kind, .int .i64 v_b0n.time, .int .i64 v_b0n.txn, .int .i64 v_b0n.op, .int .i64 v_b0n.wit, .string v_b0n.key, .bool v_b0n.want, .string v_b0n.exp, .bool v_b0n.got, .string v_b0n.obs, .int .i64 v_b0n.frm, .int .i64 v_b0n.to] 30)).heap.size from by simp)
  clear hT hb hb0 hb1
  have x0 : w2.cell? ⟨w1.heap.size, 0, none⟩ = some (.int .i64 10) := (blk_cell hx 0).trans rfl
  have x1 : w2.cell? ⟨w1.heap.size, 1, none⟩ = some (.int .i64 5) := (blk_cell hx 1).trans rfl
  have x2 : w2.cell? ⟨w1.heap.size, 2, none⟩ = some (.int .i64 3) := (blk_cell hx 2).trans rfl
  have x3 : w2.cell? ⟨w1.heap.size, 3, none⟩ = some (.int .i64 1) := (blk_cell hx 3).trans rfl
  have x4 : w2.cell? ⟨w1.heap.size, 4, none⟩ = some (.int .i64 2) := (blk_cell hx 4).trans rfl
  have x5 : w2.cell? ⟨w1.heap.size, 5, none⟩ = some (.string ⟨#[107]⟩) := (blk_cell hx 5).trans rfl
  have x6 : w2.cell? ⟨w1.heap.size, 6, none⟩ = some (.bool true) := (blk_cell hx 6).trans rfl
  have x7 : w2.cell? ⟨w1.heap.size, 7, none⟩ = some (.string ⟨#[120]⟩) := (blk_cell hx 7).trans rfl
  have x8 : w2.cell? ⟨w1.heap.size, 8, none⟩ = some (.bool true) := (blk_cell hx 8).trans rfl
  have x9 : w2.cell? ⟨w1.heap.size, 9, none⟩ = some (.string ⟨#[121]⟩) := (blk_cell hx 9).trans rfl
  have x10 : w2.cell? ⟨w1.heap.size, 10, none⟩ = some (.int .i64 4) := (blk_cell hx 10).trans rfl
  have x11 : w2.cell? ⟨w1.heap.size, 11, none⟩ = some (.int .i64 6) := (blk_cell hx 11).trans rfl
  have X2 := hid hx
  clear hx
  generalize w1.heap.size = bx at *
  go_wp2_with fail
  clear x0 x1 x2 x3 x4 x5 x6 x7 x8 x9 x10 x11
  refine (put_any _ t 3 0 _ [] v_b0n _ T1.out (by omega) (by omega) (by simp) (by omega) (by omega) hB.out).mono ?_
  rintro e w3 (⟨hv, _⟩ | ⟨_, rfl, hv', hT, hb⟩)
  case inl => rw [ok_b0n] at hv; cases hv
  rw [putOne] at hT
  have T3 := hid hT
  have X3 := hid ((hb.block bx hBx.out).trans X2.out)
  have hb3 := hid (hb2.out.trans (hb.mono hW.out))
  clear hT
  clear hb T1 X2 hb2 hB hW hBx
  have x0 : w3.cell? ⟨bx, 0, none⟩ = some (.int .i64 10) := (blk_cell X3.out 0).trans rfl
  have x1 : w3.cell? ⟨bx, 1, none⟩ = some (.int .i64 5) := (blk_cell X3.out 1).trans rfl
  have x2 : w3.cell? ⟨bx, 2, none⟩ = some (.int .i64 3) := (blk_cell X3.out 2).trans rfl
  have x3 : w3.cell? ⟨bx, 3, none⟩ = some (.int .i64 1) := (blk_cell X3.out 3).trans rfl
  have x4 : w3.cell? ⟨bx, 4, none⟩ = some (.int .i64 2) := (blk_cell X3.out 4).trans rfl
  have x5 : w3.cell? ⟨bx, 5, none⟩ = some (.string ⟨#[107]⟩) := (blk_cell X3.out 5).trans rfl
  have x6 : w3.cell? ⟨bx, 6, none⟩ = some (.bool true) := (blk_cell X3.out 6).trans rfl
  have x7 : w3.cell? ⟨bx, 7, none⟩ = some (.string ⟨#[120]⟩) := (blk_cell X3.out 7).trans rfl
  have x8 : w3.cell? ⟨bx, 8, none⟩ = some (.bool true) := (blk_cell X3.out 8).trans rfl
  have x9 : w3.cell? ⟨bx, 9, none⟩ = some (.string ⟨#[121]⟩) := (blk_cell X3.out 9).trans rfl
  have x10 : w3.cell? ⟨bx, 10, none⟩ = some (.int .i64 4) := (blk_cell X3.out 10).trans rfl
  have x11 : w3.cell? ⟨bx, 11, none⟩ = some (.int .i64 6) := (blk_cell X3.out 11).trans rfl
  go_wp2_with fail
  clear x0 x1 x2 x3 x4 x5 x6 x7 x8 x9 x10 x11
  refine (valid_any v_b0n _).mono ?_
  rintro e w4 ⟨rfl, hb4⟩
  have hok := ok_b0n
  have T4 := hid (T3.out.below hb4)
  have hb4' := hid (hb3.out.trans (hb4.mono hb3.out.size))
  clear hb4 T3 X3 hb3
  go_wp2_with fail
  refine (list_any _ t _ _ _ _ _ T4.out (by simp)).mono ?_
  rintro e w5 ⟨v, d, rfl, hp, hs, ho, _, hb5⟩
  obtain rfl := perm_one hp
  obtain ⟨a, cap, rfl, _⟩ := ownV_open ho (by simp)
  simp only [List.map_cons, List.map_nil, List.length_cons, List.length_nil, Nat.zero_add]
  have T5 := hid (T4.out.below hb5)
  have hb5' := hid (hb4'.out.trans (hb5.mono hb4'.out.size))
  clear hb5 T4 hb4' hp hs ho
  go_wp2_with fail
  refine (total_any _ t _ _ _ _ _ T5.out).mono ?_
  rintro e w6 ⟨rfl, rfl⟩
  go_wp2_with fail
  go_ret
  exact ⟨rfl, hb5'.out⟩

def v_b0p : V := ⟨11, 5, 3, 1, 2, ⟨#[107]⟩, true, ⟨#[120]⟩, true, ⟨#[121]⟩, 4, 6⟩
theorem ok_b0p : validB v_b0p = false := by decide
set_option maxHeartbeats 4000000 in
set_option maxRecDepth 1000000 in
theorem b0p (w : World) : Calls Try.prog 5 #[.int .i64 0, .bool true] w fun e w' => e = .returned (.bool true) ∧ Below w.heap.size w w' := by
  go_enter Try.func5, Try.ntmps5
  go_wp2_with fail
  refine (anchor_any _).mono ?_
  rintro e w1 ⟨rfl, hb1⟩
  go_wp2_with fail
  refine (new_good 3 _ (by omega) (by omega)).mono ?_
  rintro e w2 ⟨t, rfl, hT, hb⟩
  have hb0 := hid (hb1.alloc hb1.size (.cells #[.int .i64 v_b0p.kind, .int .i64 v_b0p.time, .int .i64 v_b0p.txn, .int .i64 v_b0p.op, .int .i64 v_b0p.wit, .string v_b0p.key, .bool v_b0p.want, .string v_b0p.exp, .bool v_b0p.got, .string v_b0p.obs, .int .i64 v_b0p.frm, .int .i64 v_b0p.to] 30))
  have hx := (hb.block w1.heap.size (by simp)).trans (heap_alloc_new w1 _)
  have T1 := hid hT
  have hb2 := hid (hb0.out.trans (hb.mono hb0.out.size))
  have hB := hid hb.size
  have hW := hid hb0.out.size
  have hBx := hid (show w1.heap.size < (w1.alloc (.cells #[.int .i64 v_b0p.kind, .int .i64 v_b0p.time, .int .i64 v_b0p.txn, .int .i64 v_b0p.op, .int .i64 v_b0p.wit, .string v_b0p.key, .bool v_b0p.want, .string v_b0p.exp, .bool v_b0p.got, .string v_b0p.obs, .int .i64 v_b0p.frm, .int .i64 v_b0p.to] 30)).heap.size from by simp)
  clear hT hb hb0 hb1
  have x0 : w2.cell? ⟨w1.heap.size, 0, none⟩ = some (.int .i64 11) := (blk_cell hx 0).trans rfl
  have x1 : w2.cell? ⟨w1.heap.size, 1, none⟩ = some (.int .i64 5) := (blk_cell hx 1).trans rfl
  have x2 : w2.cell? ⟨w1.heap.size, 2, none⟩ = some (.int .i64 3) := (blk_cell hx 2).trans rfl
  have x3 : w2.cell? ⟨w1.heap.size, 3, none⟩ = some (.int .i64 1) := (blk_cell hx 3).trans rfl
  have x4 : w2.cell? ⟨w1.heap.size, 4, none⟩ = some (.int .i64 2) := (blk_cell hx 4).trans rfl
  have x5 : w2.cell? ⟨w1.heap.size, 5, none⟩ = some (.string ⟨#[107]⟩) := (blk_cell hx 5).trans rfl
  have x6 : w2.cell? ⟨w1.heap.size, 6, none⟩ = some (.bool true) := (blk_cell hx 6).trans rfl
  have x7 : w2.cell? ⟨w1.heap.size, 7, none⟩ = some (.string ⟨#[120]⟩) := (blk_cell hx 7).trans rfl
  have x8 : w2.cell? ⟨w1.heap.size, 8, none⟩ = some (.bool true) := (blk_cell hx 8).trans rfl
  have x9 : w2.cell? ⟨w1.heap.size, 9, none⟩ = some (.string ⟨#[121]⟩) := (blk_cell hx 9).trans rfl
  have x10 : w2.cell? ⟨w1.heap.size, 10, none⟩ = some (.int .i64 4) := (blk_cell hx 10).trans rfl
  have x11 : w2.cell? ⟨w1.heap.size, 11, none⟩ = some (.int .i64 6) := (blk_cell hx 11).trans rfl
  have X2 := hid hx
  clear hx
  generalize w1.heap.size = bx at *
  go_wp2_with fail
  clear x0 x1 x2 x3 x4 x5 x6 x7 x8 x9 x10 x11
  refine (put_any _ t 3 0 _ [] v_b0p _ T1.out (by omega) (by omega) (by simp) (by omega) (by omega) hB.out).mono ?_
  rintro e w3 (⟨_, rfl, hb⟩ | ⟨hv, _⟩)
  case inr => rw [ok_b0p] at hv; cases hv
  have T3 := hid (T1.out.below hb)
  have X3 := hid ((hb.block bx (blk_lt X2.out)).trans X2.out)
  have hb3 := hid (hb2.out.trans (hb.mono hb2.out.size))
  clear hb T1 X2 hb2 hB hW hBx
  have x0 : w3.cell? ⟨bx, 0, none⟩ = some (.int .i64 11) := (blk_cell X3.out 0).trans rfl
  have x1 : w3.cell? ⟨bx, 1, none⟩ = some (.int .i64 5) := (blk_cell X3.out 1).trans rfl
  have x2 : w3.cell? ⟨bx, 2, none⟩ = some (.int .i64 3) := (blk_cell X3.out 2).trans rfl
  have x3 : w3.cell? ⟨bx, 3, none⟩ = some (.int .i64 1) := (blk_cell X3.out 3).trans rfl
  have x4 : w3.cell? ⟨bx, 4, none⟩ = some (.int .i64 2) := (blk_cell X3.out 4).trans rfl
  have x5 : w3.cell? ⟨bx, 5, none⟩ = some (.string ⟨#[107]⟩) := (blk_cell X3.out 5).trans rfl
  have x6 : w3.cell? ⟨bx, 6, none⟩ = some (.bool true) := (blk_cell X3.out 6).trans rfl
  have x7 : w3.cell? ⟨bx, 7, none⟩ = some (.string ⟨#[120]⟩) := (blk_cell X3.out 7).trans rfl
  have x8 : w3.cell? ⟨bx, 8, none⟩ = some (.bool true) := (blk_cell X3.out 8).trans rfl
  have x9 : w3.cell? ⟨bx, 9, none⟩ = some (.string ⟨#[121]⟩) := (blk_cell X3.out 9).trans rfl
  have x10 : w3.cell? ⟨bx, 10, none⟩ = some (.int .i64 4) := (blk_cell X3.out 10).trans rfl
  have x11 : w3.cell? ⟨bx, 11, none⟩ = some (.int .i64 6) := (blk_cell X3.out 11).trans rfl
  go_wp2_with fail
  clear x0 x1 x2 x3 x4 x5 x6 x7 x8 x9 x10 x11
  refine (valid_any v_b0p _).mono ?_
  rintro e w4 ⟨rfl, hb4⟩
  have hok := ok_b0p
  have T4 := hid (T3.out.below hb4)
  have hb4' := hid (hb3.out.trans (hb4.mono hb3.out.size))
  clear hb4 T3 X3 hb3
  go_wp2_with fail
  refine (list_any _ t _ _ _ _ _ T4.out (by simp)).mono ?_
  rintro e w5 ⟨v, d, rfl, hp, hs, ho, _, hb5⟩
  obtain rfl := perm_zero hp
  obtain ⟨a, cap, rfl⟩ := ownV_empty ho
  have T5 := hid (T4.out.below hb5)
  have hb5' := hid (hb4'.out.trans (hb5.mono hb4'.out.size))
  clear hb5 T4 hb4' hp hs ho
  go_wp2_with fail
  refine (total_any _ t _ _ _ _ _ T5.out).mono ?_
  rintro e w6 ⟨rfl, rfl⟩
  go_wp2_with fail
  go_ret
  exact ⟨rfl, hb5'.out⟩

def v_b1n : V := ⟨1, 5, 3, 1, 2, ⟨#[107]⟩, true, ⟨#[120]⟩, true, ⟨#[121]⟩, 4, 6⟩
theorem ok_b1n : validB v_b1n = true := by decide
set_option maxHeartbeats 4000000 in
set_option maxRecDepth 1000000 in
theorem b1n (w : World) : Calls Try.prog 5 #[.int .i64 1, .bool false] w fun e w' => e = .returned (.bool true) ∧ Below w.heap.size w w' := by
  go_enter Try.func5, Try.ntmps5
  go_wp2_with fail
  refine (anchor_any _).mono ?_
  rintro e w1 ⟨rfl, hb1⟩
  go_wp2_with fail
  refine (new_good 3 _ (by omega) (by omega)).mono ?_
  rintro e w2 ⟨t, rfl, hT, hb⟩
  have hb0 := hid (hb1.alloc hb1.size (.cells #[.int .i64 v_b1n.kind, .int .i64 v_b1n.time, .int .i64 v_b1n.txn, .int .i64 v_b1n.op, .int .i64 v_b1n.wit, .string v_b1n.key, .bool v_b1n.want, .string v_b1n.exp, .bool v_b1n.got, .string v_b1n.obs, .int .i64 v_b1n.frm, .int .i64 v_b1n.to] 30))
  have hx := (hb.block w1.heap.size (by simp)).trans (heap_alloc_new w1 _)
  have T1 := hid hT
  have hb2 := hid (hb0.out.trans (hb.mono hb0.out.size))
  have hB := hid hb.size
  have hW := hid hb0.out.size
  have hBx := hid (show w1.heap.size < (w1.alloc (.cells #[.int .i64 v_b1n.kind, .int .i64 v_b1n.time, .int .i64 v_b1n.txn, .int .i64 v_b1n.op, .int .i64 v_b1n.wit, .string v_b1n.key, .bool v_b1n.want, .string v_b1n.exp, .bool v_b1n.got, .string v_b1n.obs, .int .i64 v_b1n.frm, .int .i64 v_b1n.to] 30)).heap.size from by simp)
  clear hT hb hb0 hb1
  have x0 : w2.cell? ⟨w1.heap.size, 0, none⟩ = some (.int .i64 1) := (blk_cell hx 0).trans rfl
  have x1 : w2.cell? ⟨w1.heap.size, 1, none⟩ = some (.int .i64 5) := (blk_cell hx 1).trans rfl
  have x2 : w2.cell? ⟨w1.heap.size, 2, none⟩ = some (.int .i64 3) := (blk_cell hx 2).trans rfl
  have x3 : w2.cell? ⟨w1.heap.size, 3, none⟩ = some (.int .i64 1) := (blk_cell hx 3).trans rfl
  have x4 : w2.cell? ⟨w1.heap.size, 4, none⟩ = some (.int .i64 2) := (blk_cell hx 4).trans rfl
  have x5 : w2.cell? ⟨w1.heap.size, 5, none⟩ = some (.string ⟨#[107]⟩) := (blk_cell hx 5).trans rfl
  have x6 : w2.cell? ⟨w1.heap.size, 6, none⟩ = some (.bool true) := (blk_cell hx 6).trans rfl
  have x7 : w2.cell? ⟨w1.heap.size, 7, none⟩ = some (.string ⟨#[120]⟩) := (blk_cell hx 7).trans rfl
  have x8 : w2.cell? ⟨w1.heap.size, 8, none⟩ = some (.bool true) := (blk_cell hx 8).trans rfl
  have x9 : w2.cell? ⟨w1.heap.size, 9, none⟩ = some (.string ⟨#[121]⟩) := (blk_cell hx 9).trans rfl
  have x10 : w2.cell? ⟨w1.heap.size, 10, none⟩ = some (.int .i64 4) := (blk_cell hx 10).trans rfl
  have x11 : w2.cell? ⟨w1.heap.size, 11, none⟩ = some (.int .i64 6) := (blk_cell hx 11).trans rfl
  have X2 := hid hx
  clear hx
  generalize w1.heap.size = bx at *
  go_wp2_with fail
  clear x0 x1 x2 x3 x4 x5 x6 x7 x8 x9 x10 x11
  refine (put_any _ t 3 0 _ [] v_b1n _ T1.out (by omega) (by omega) (by simp) (by omega) (by omega) hB.out).mono ?_
  rintro e w3 (⟨hv, _⟩ | ⟨_, rfl, hv', hT, hb⟩)
  case inl => rw [ok_b1n] at hv; cases hv
  rw [putOne] at hT
  have T3 := hid hT
  have X3 := hid ((hb.block bx hBx.out).trans X2.out)
  have hb3 := hid (hb2.out.trans (hb.mono hW.out))
  clear hT
  clear hb T1 X2 hb2 hB hW hBx
  have x0 : w3.cell? ⟨bx, 0, none⟩ = some (.int .i64 1) := (blk_cell X3.out 0).trans rfl
  have x1 : w3.cell? ⟨bx, 1, none⟩ = some (.int .i64 5) := (blk_cell X3.out 1).trans rfl
  have x2 : w3.cell? ⟨bx, 2, none⟩ = some (.int .i64 3) := (blk_cell X3.out 2).trans rfl
  have x3 : w3.cell? ⟨bx, 3, none⟩ = some (.int .i64 1) := (blk_cell X3.out 3).trans rfl
  have x4 : w3.cell? ⟨bx, 4, none⟩ = some (.int .i64 2) := (blk_cell X3.out 4).trans rfl
  have x5 : w3.cell? ⟨bx, 5, none⟩ = some (.string ⟨#[107]⟩) := (blk_cell X3.out 5).trans rfl
  have x6 : w3.cell? ⟨bx, 6, none⟩ = some (.bool true) := (blk_cell X3.out 6).trans rfl
  have x7 : w3.cell? ⟨bx, 7, none⟩ = some (.string ⟨#[120]⟩) := (blk_cell X3.out 7).trans rfl
  have x8 : w3.cell? ⟨bx, 8, none⟩ = some (.bool true) := (blk_cell X3.out 8).trans rfl
  have x9 : w3.cell? ⟨bx, 9, none⟩ = some (.string ⟨#[121]⟩) := (blk_cell X3.out 9).trans rfl
  have x10 : w3.cell? ⟨bx, 10, none⟩ = some (.int .i64 4) := (blk_cell X3.out 10).trans rfl
  have x11 : w3.cell? ⟨bx, 11, none⟩ = some (.int .i64 6) := (blk_cell X3.out 11).trans rfl
  go_wp2_with fail
  clear x0 x1 x2 x3 x4 x5 x6 x7 x8 x9 x10 x11
  refine (valid_any v_b1n _).mono ?_
  rintro e w4 ⟨rfl, hb4⟩
  have hok := ok_b1n
  have T4 := hid (T3.out.below hb4)
  have hb4' := hid (hb3.out.trans (hb4.mono hb3.out.size))
  clear hb4 T3 X3 hb3
  go_wp2_with fail
  refine (list_any _ t _ _ _ _ _ T4.out (by simp)).mono ?_
  rintro e w5 ⟨v, d, rfl, hp, hs, ho, _, hb5⟩
  obtain rfl := perm_one hp
  obtain ⟨a, cap, rfl, _⟩ := ownV_open ho (by simp)
  simp only [List.map_cons, List.map_nil, List.length_cons, List.length_nil, Nat.zero_add]
  have T5 := hid (T4.out.below hb5)
  have hb5' := hid (hb4'.out.trans (hb5.mono hb4'.out.size))
  clear hb5 T4 hb4' hp hs ho
  go_wp2_with fail
  refine (total_any _ t _ _ _ _ _ T5.out).mono ?_
  rintro e w6 ⟨rfl, rfl⟩
  go_wp2_with fail
  go_ret
  exact ⟨rfl, hb5'.out⟩

def v_b1p : V := ⟨0, 5, 3, 1, 2, ⟨#[107]⟩, true, ⟨#[120]⟩, true, ⟨#[121]⟩, 4, 6⟩
theorem ok_b1p : validB v_b1p = false := by decide
set_option maxHeartbeats 4000000 in
set_option maxRecDepth 1000000 in
theorem b1p (w : World) : Calls Try.prog 5 #[.int .i64 1, .bool true] w fun e w' => e = .returned (.bool true) ∧ Below w.heap.size w w' := by
  go_enter Try.func5, Try.ntmps5
  go_wp2_with fail
  refine (anchor_any _).mono ?_
  rintro e w1 ⟨rfl, hb1⟩
  go_wp2_with fail
  refine (new_good 3 _ (by omega) (by omega)).mono ?_
  rintro e w2 ⟨t, rfl, hT, hb⟩
  have hb0 := hid (hb1.alloc hb1.size (.cells #[.int .i64 v_b1p.kind, .int .i64 v_b1p.time, .int .i64 v_b1p.txn, .int .i64 v_b1p.op, .int .i64 v_b1p.wit, .string v_b1p.key, .bool v_b1p.want, .string v_b1p.exp, .bool v_b1p.got, .string v_b1p.obs, .int .i64 v_b1p.frm, .int .i64 v_b1p.to] 30))
  have hx := (hb.block w1.heap.size (by simp)).trans (heap_alloc_new w1 _)
  have T1 := hid hT
  have hb2 := hid (hb0.out.trans (hb.mono hb0.out.size))
  have hB := hid hb.size
  have hW := hid hb0.out.size
  have hBx := hid (show w1.heap.size < (w1.alloc (.cells #[.int .i64 v_b1p.kind, .int .i64 v_b1p.time, .int .i64 v_b1p.txn, .int .i64 v_b1p.op, .int .i64 v_b1p.wit, .string v_b1p.key, .bool v_b1p.want, .string v_b1p.exp, .bool v_b1p.got, .string v_b1p.obs, .int .i64 v_b1p.frm, .int .i64 v_b1p.to] 30)).heap.size from by simp)
  clear hT hb hb0 hb1
  have x0 : w2.cell? ⟨w1.heap.size, 0, none⟩ = some (.int .i64 0) := (blk_cell hx 0).trans rfl
  have x1 : w2.cell? ⟨w1.heap.size, 1, none⟩ = some (.int .i64 5) := (blk_cell hx 1).trans rfl
  have x2 : w2.cell? ⟨w1.heap.size, 2, none⟩ = some (.int .i64 3) := (blk_cell hx 2).trans rfl
  have x3 : w2.cell? ⟨w1.heap.size, 3, none⟩ = some (.int .i64 1) := (blk_cell hx 3).trans rfl
  have x4 : w2.cell? ⟨w1.heap.size, 4, none⟩ = some (.int .i64 2) := (blk_cell hx 4).trans rfl
  have x5 : w2.cell? ⟨w1.heap.size, 5, none⟩ = some (.string ⟨#[107]⟩) := (blk_cell hx 5).trans rfl
  have x6 : w2.cell? ⟨w1.heap.size, 6, none⟩ = some (.bool true) := (blk_cell hx 6).trans rfl
  have x7 : w2.cell? ⟨w1.heap.size, 7, none⟩ = some (.string ⟨#[120]⟩) := (blk_cell hx 7).trans rfl
  have x8 : w2.cell? ⟨w1.heap.size, 8, none⟩ = some (.bool true) := (blk_cell hx 8).trans rfl
  have x9 : w2.cell? ⟨w1.heap.size, 9, none⟩ = some (.string ⟨#[121]⟩) := (blk_cell hx 9).trans rfl
  have x10 : w2.cell? ⟨w1.heap.size, 10, none⟩ = some (.int .i64 4) := (blk_cell hx 10).trans rfl
  have x11 : w2.cell? ⟨w1.heap.size, 11, none⟩ = some (.int .i64 6) := (blk_cell hx 11).trans rfl
  have X2 := hid hx
  clear hx
  generalize w1.heap.size = bx at *
  go_wp2_with fail
  clear x0 x1 x2 x3 x4 x5 x6 x7 x8 x9 x10 x11
  refine (put_any _ t 3 0 _ [] v_b1p _ T1.out (by omega) (by omega) (by simp) (by omega) (by omega) hB.out).mono ?_
  rintro e w3 (⟨_, rfl, hb⟩ | ⟨hv, _⟩)
  case inr => rw [ok_b1p] at hv; cases hv
  have T3 := hid (T1.out.below hb)
  have X3 := hid ((hb.block bx (blk_lt X2.out)).trans X2.out)
  have hb3 := hid (hb2.out.trans (hb.mono hb2.out.size))
  clear hb T1 X2 hb2 hB hW hBx
  have x0 : w3.cell? ⟨bx, 0, none⟩ = some (.int .i64 0) := (blk_cell X3.out 0).trans rfl
  have x1 : w3.cell? ⟨bx, 1, none⟩ = some (.int .i64 5) := (blk_cell X3.out 1).trans rfl
  have x2 : w3.cell? ⟨bx, 2, none⟩ = some (.int .i64 3) := (blk_cell X3.out 2).trans rfl
  have x3 : w3.cell? ⟨bx, 3, none⟩ = some (.int .i64 1) := (blk_cell X3.out 3).trans rfl
  have x4 : w3.cell? ⟨bx, 4, none⟩ = some (.int .i64 2) := (blk_cell X3.out 4).trans rfl
  have x5 : w3.cell? ⟨bx, 5, none⟩ = some (.string ⟨#[107]⟩) := (blk_cell X3.out 5).trans rfl
  have x6 : w3.cell? ⟨bx, 6, none⟩ = some (.bool true) := (blk_cell X3.out 6).trans rfl
  have x7 : w3.cell? ⟨bx, 7, none⟩ = some (.string ⟨#[120]⟩) := (blk_cell X3.out 7).trans rfl
  have x8 : w3.cell? ⟨bx, 8, none⟩ = some (.bool true) := (blk_cell X3.out 8).trans rfl
  have x9 : w3.cell? ⟨bx, 9, none⟩ = some (.string ⟨#[121]⟩) := (blk_cell X3.out 9).trans rfl
  have x10 : w3.cell? ⟨bx, 10, none⟩ = some (.int .i64 4) := (blk_cell X3.out 10).trans rfl
  have x11 : w3.cell? ⟨bx, 11, none⟩ = some (.int .i64 6) := (blk_cell X3.out 11).trans rfl
  go_wp2_with fail
  clear x0 x1 x2 x3 x4 x5 x6 x7 x8 x9 x10 x11
  refine (valid_any v_b1p _).mono ?_
  rintro e w4 ⟨rfl, hb4⟩
  have hok := ok_b1p
  have T4 := hid (T3.out.below hb4)
  have hb4' := hid (hb3.out.trans (hb4.mono hb3.out.size))
  clear hb4 T3 X3 hb3
  go_wp2_with fail
  refine (list_any _ t _ _ _ _ _ T4.out (by simp)).mono ?_
  rintro e w5 ⟨v, d, rfl, hp, hs, ho, _, hb5⟩
  obtain rfl := perm_zero hp
  obtain ⟨a, cap, rfl⟩ := ownV_empty ho
  have T5 := hid (T4.out.below hb5)
  have hb5' := hid (hb4'.out.trans (hb5.mono hb4'.out.size))
  clear hb5 T4 hb4' hp hs ho
  go_wp2_with fail
  refine (total_any _ t _ _ _ _ _ T5.out).mono ?_
  rintro e w6 ⟨rfl, rfl⟩
  go_wp2_with fail
  go_ret
  exact ⟨rfl, hb5'.out⟩

def v_b2n : V := ⟨7, 1099511627776, 3, 1, 2, ⟨#[107]⟩, true, ⟨#[120]⟩, true, ⟨#[121]⟩, 4, 6⟩
theorem ok_b2n : validB v_b2n = true := by decide
set_option maxHeartbeats 4000000 in
set_option maxRecDepth 1000000 in
theorem b2n (w : World) : Calls Try.prog 5 #[.int .i64 2, .bool false] w fun e w' => e = .returned (.bool true) ∧ Below w.heap.size w w' := by
  go_enter Try.func5, Try.ntmps5
  go_wp2_with fail
  refine (anchor_any _).mono ?_
  rintro e w1 ⟨rfl, hb1⟩
  go_wp2_with fail
  refine (new_good 3 _ (by omega) (by omega)).mono ?_
  rintro e w2 ⟨t, rfl, hT, hb⟩
  have hb0 := hid (hb1.alloc hb1.size (.cells #[.int .i64 v_b2n.kind, .int .i64 v_b2n.time, .int .i64 v_b2n.txn, .int .i64 v_b2n.op, .int .i64 v_b2n.wit, .string v_b2n.key, .bool v_b2n.want, .string v_b2n.exp, .bool v_b2n.got, .string v_b2n.obs, .int .i64 v_b2n.frm, .int .i64 v_b2n.to] 30))
  have hx := (hb.block w1.heap.size (by simp)).trans (heap_alloc_new w1 _)
  have T1 := hid hT
  have hb2 := hid (hb0.out.trans (hb.mono hb0.out.size))
  have hB := hid hb.size
  have hW := hid hb0.out.size
  have hBx := hid (show w1.heap.size < (w1.alloc (.cells #[.int .i64 v_b2n.kind, .int .i64 v_b2n.time, .int .i64 v_b2n.txn, .int .i64 v_b2n.op, .int .i64 v_b2n.wit, .string v_b2n.key, .bool v_b2n.want, .string v_b2n.exp, .bool v_b2n.got, .string v_b2n.obs, .int .i64 v_b2n.frm, .int .i64 v_b2n.to] 30)).heap.size from by simp)
  clear hT hb hb0 hb1
  have x0 : w2.cell? ⟨w1.heap.size, 0, none⟩ = some (.int .i64 7) := (blk_cell hx 0).trans rfl
  have x1 : w2.cell? ⟨w1.heap.size, 1, none⟩ = some (.int .i64 1099511627776) := (blk_cell hx 1).trans rfl
  have x2 : w2.cell? ⟨w1.heap.size, 2, none⟩ = some (.int .i64 3) := (blk_cell hx 2).trans rfl
  have x3 : w2.cell? ⟨w1.heap.size, 3, none⟩ = some (.int .i64 1) := (blk_cell hx 3).trans rfl
  have x4 : w2.cell? ⟨w1.heap.size, 4, none⟩ = some (.int .i64 2) := (blk_cell hx 4).trans rfl
  have x5 : w2.cell? ⟨w1.heap.size, 5, none⟩ = some (.string ⟨#[107]⟩) := (blk_cell hx 5).trans rfl
  have x6 : w2.cell? ⟨w1.heap.size, 6, none⟩ = some (.bool true) := (blk_cell hx 6).trans rfl
  have x7 : w2.cell? ⟨w1.heap.size, 7, none⟩ = some (.string ⟨#[120]⟩) := (blk_cell hx 7).trans rfl
  have x8 : w2.cell? ⟨w1.heap.size, 8, none⟩ = some (.bool true) := (blk_cell hx 8).trans rfl
  have x9 : w2.cell? ⟨w1.heap.size, 9, none⟩ = some (.string ⟨#[121]⟩) := (blk_cell hx 9).trans rfl
  have x10 : w2.cell? ⟨w1.heap.size, 10, none⟩ = some (.int .i64 4) := (blk_cell hx 10).trans rfl
  have x11 : w2.cell? ⟨w1.heap.size, 11, none⟩ = some (.int .i64 6) := (blk_cell hx 11).trans rfl
  have X2 := hid hx
  clear hx
  generalize w1.heap.size = bx at *
  go_wp2_with fail
  clear x0 x1 x2 x3 x4 x5 x6 x7 x8 x9 x10 x11
  refine (put_any _ t 3 0 _ [] v_b2n _ T1.out (by omega) (by omega) (by simp) (by omega) (by omega) hB.out).mono ?_
  rintro e w3 (⟨hv, _⟩ | ⟨_, rfl, hv', hT, hb⟩)
  case inl => rw [ok_b2n] at hv; cases hv
  rw [putOne] at hT
  have T3 := hid hT
  have X3 := hid ((hb.block bx hBx.out).trans X2.out)
  have hb3 := hid (hb2.out.trans (hb.mono hW.out))
  clear hT
  clear hb T1 X2 hb2 hB hW hBx
  have x0 : w3.cell? ⟨bx, 0, none⟩ = some (.int .i64 7) := (blk_cell X3.out 0).trans rfl
  have x1 : w3.cell? ⟨bx, 1, none⟩ = some (.int .i64 1099511627776) := (blk_cell X3.out 1).trans rfl
  have x2 : w3.cell? ⟨bx, 2, none⟩ = some (.int .i64 3) := (blk_cell X3.out 2).trans rfl
  have x3 : w3.cell? ⟨bx, 3, none⟩ = some (.int .i64 1) := (blk_cell X3.out 3).trans rfl
  have x4 : w3.cell? ⟨bx, 4, none⟩ = some (.int .i64 2) := (blk_cell X3.out 4).trans rfl
  have x5 : w3.cell? ⟨bx, 5, none⟩ = some (.string ⟨#[107]⟩) := (blk_cell X3.out 5).trans rfl
  have x6 : w3.cell? ⟨bx, 6, none⟩ = some (.bool true) := (blk_cell X3.out 6).trans rfl
  have x7 : w3.cell? ⟨bx, 7, none⟩ = some (.string ⟨#[120]⟩) := (blk_cell X3.out 7).trans rfl
  have x8 : w3.cell? ⟨bx, 8, none⟩ = some (.bool true) := (blk_cell X3.out 8).trans rfl
  have x9 : w3.cell? ⟨bx, 9, none⟩ = some (.string ⟨#[121]⟩) := (blk_cell X3.out 9).trans rfl
  have x10 : w3.cell? ⟨bx, 10, none⟩ = some (.int .i64 4) := (blk_cell X3.out 10).trans rfl
  have x11 : w3.cell? ⟨bx, 11, none⟩ = some (.int .i64 6) := (blk_cell X3.out 11).trans rfl
  go_wp2_with fail
  clear x0 x1 x2 x3 x4 x5 x6 x7 x8 x9 x10 x11
  refine (valid_any v_b2n _).mono ?_
  rintro e w4 ⟨rfl, hb4⟩
  have hok := ok_b2n
  have T4 := hid (T3.out.below hb4)
  have hb4' := hid (hb3.out.trans (hb4.mono hb3.out.size))
  clear hb4 T3 X3 hb3
  go_wp2_with fail
  refine (list_any _ t _ _ _ _ _ T4.out (by simp)).mono ?_
  rintro e w5 ⟨v, d, rfl, hp, hs, ho, _, hb5⟩
  obtain rfl := perm_one hp
  obtain ⟨a, cap, rfl, _⟩ := ownV_open ho (by simp)
  simp only [List.map_cons, List.map_nil, List.length_cons, List.length_nil, Nat.zero_add]
  have T5 := hid (T4.out.below hb5)
  have hb5' := hid (hb4'.out.trans (hb5.mono hb4'.out.size))
  clear hb5 T4 hb4' hp hs ho
  go_wp2_with fail
  refine (total_any _ t _ _ _ _ _ T5.out).mono ?_
  rintro e w6 ⟨rfl, rfl⟩
  go_wp2_with fail
  go_ret
  exact ⟨rfl, hb5'.out⟩

def v_b2p : V := ⟨7, 1099511627777, 3, 1, 2, ⟨#[107]⟩, true, ⟨#[120]⟩, true, ⟨#[121]⟩, 4, 6⟩
theorem ok_b2p : validB v_b2p = false := by decide
set_option maxHeartbeats 4000000 in
set_option maxRecDepth 1000000 in
theorem b2p (w : World) : Calls Try.prog 5 #[.int .i64 2, .bool true] w fun e w' => e = .returned (.bool true) ∧ Below w.heap.size w w' := by
  go_enter Try.func5, Try.ntmps5
  go_wp2_with fail
  refine (anchor_any _).mono ?_
  rintro e w1 ⟨rfl, hb1⟩
  go_wp2_with fail
  refine (new_good 3 _ (by omega) (by omega)).mono ?_
  rintro e w2 ⟨t, rfl, hT, hb⟩
  have hb0 := hid (hb1.alloc hb1.size (.cells #[.int .i64 v_b2p.kind, .int .i64 v_b2p.time, .int .i64 v_b2p.txn, .int .i64 v_b2p.op, .int .i64 v_b2p.wit, .string v_b2p.key, .bool v_b2p.want, .string v_b2p.exp, .bool v_b2p.got, .string v_b2p.obs, .int .i64 v_b2p.frm, .int .i64 v_b2p.to] 30))
  have hx := (hb.block w1.heap.size (by simp)).trans (heap_alloc_new w1 _)
  have T1 := hid hT
  have hb2 := hid (hb0.out.trans (hb.mono hb0.out.size))
  have hB := hid hb.size
  have hW := hid hb0.out.size
  have hBx := hid (show w1.heap.size < (w1.alloc (.cells #[.int .i64 v_b2p.kind, .int .i64 v_b2p.time, .int .i64 v_b2p.txn, .int .i64 v_b2p.op, .int .i64 v_b2p.wit, .string v_b2p.key, .bool v_b2p.want, .string v_b2p.exp, .bool v_b2p.got, .string v_b2p.obs, .int .i64 v_b2p.frm, .int .i64 v_b2p.to] 30)).heap.size from by simp)
  clear hT hb hb0 hb1
  have x0 : w2.cell? ⟨w1.heap.size, 0, none⟩ = some (.int .i64 7) := (blk_cell hx 0).trans rfl
  have x1 : w2.cell? ⟨w1.heap.size, 1, none⟩ = some (.int .i64 1099511627777) := (blk_cell hx 1).trans rfl
  have x2 : w2.cell? ⟨w1.heap.size, 2, none⟩ = some (.int .i64 3) := (blk_cell hx 2).trans rfl
  have x3 : w2.cell? ⟨w1.heap.size, 3, none⟩ = some (.int .i64 1) := (blk_cell hx 3).trans rfl
  have x4 : w2.cell? ⟨w1.heap.size, 4, none⟩ = some (.int .i64 2) := (blk_cell hx 4).trans rfl
  have x5 : w2.cell? ⟨w1.heap.size, 5, none⟩ = some (.string ⟨#[107]⟩) := (blk_cell hx 5).trans rfl
  have x6 : w2.cell? ⟨w1.heap.size, 6, none⟩ = some (.bool true) := (blk_cell hx 6).trans rfl
  have x7 : w2.cell? ⟨w1.heap.size, 7, none⟩ = some (.string ⟨#[120]⟩) := (blk_cell hx 7).trans rfl
  have x8 : w2.cell? ⟨w1.heap.size, 8, none⟩ = some (.bool true) := (blk_cell hx 8).trans rfl
  have x9 : w2.cell? ⟨w1.heap.size, 9, none⟩ = some (.string ⟨#[121]⟩) := (blk_cell hx 9).trans rfl
  have x10 : w2.cell? ⟨w1.heap.size, 10, none⟩ = some (.int .i64 4) := (blk_cell hx 10).trans rfl
  have x11 : w2.cell? ⟨w1.heap.size, 11, none⟩ = some (.int .i64 6) := (blk_cell hx 11).trans rfl
  have X2 := hid hx
  clear hx
  generalize w1.heap.size = bx at *
  go_wp2_with fail
  clear x0 x1 x2 x3 x4 x5 x6 x7 x8 x9 x10 x11
  refine (put_any _ t 3 0 _ [] v_b2p _ T1.out (by omega) (by omega) (by simp) (by omega) (by omega) hB.out).mono ?_
  rintro e w3 (⟨_, rfl, hb⟩ | ⟨hv, _⟩)
  case inr => rw [ok_b2p] at hv; cases hv
  have T3 := hid (T1.out.below hb)
  have X3 := hid ((hb.block bx (blk_lt X2.out)).trans X2.out)
  have hb3 := hid (hb2.out.trans (hb.mono hb2.out.size))
  clear hb T1 X2 hb2 hB hW hBx
  have x0 : w3.cell? ⟨bx, 0, none⟩ = some (.int .i64 7) := (blk_cell X3.out 0).trans rfl
  have x1 : w3.cell? ⟨bx, 1, none⟩ = some (.int .i64 1099511627777) := (blk_cell X3.out 1).trans rfl
  have x2 : w3.cell? ⟨bx, 2, none⟩ = some (.int .i64 3) := (blk_cell X3.out 2).trans rfl
  have x3 : w3.cell? ⟨bx, 3, none⟩ = some (.int .i64 1) := (blk_cell X3.out 3).trans rfl
  have x4 : w3.cell? ⟨bx, 4, none⟩ = some (.int .i64 2) := (blk_cell X3.out 4).trans rfl
  have x5 : w3.cell? ⟨bx, 5, none⟩ = some (.string ⟨#[107]⟩) := (blk_cell X3.out 5).trans rfl
  have x6 : w3.cell? ⟨bx, 6, none⟩ = some (.bool true) := (blk_cell X3.out 6).trans rfl
  have x7 : w3.cell? ⟨bx, 7, none⟩ = some (.string ⟨#[120]⟩) := (blk_cell X3.out 7).trans rfl
  have x8 : w3.cell? ⟨bx, 8, none⟩ = some (.bool true) := (blk_cell X3.out 8).trans rfl
  have x9 : w3.cell? ⟨bx, 9, none⟩ = some (.string ⟨#[121]⟩) := (blk_cell X3.out 9).trans rfl
  have x10 : w3.cell? ⟨bx, 10, none⟩ = some (.int .i64 4) := (blk_cell X3.out 10).trans rfl
  have x11 : w3.cell? ⟨bx, 11, none⟩ = some (.int .i64 6) := (blk_cell X3.out 11).trans rfl
  go_wp2_with fail
  clear x0 x1 x2 x3 x4 x5 x6 x7 x8 x9 x10 x11
  refine (valid_any v_b2p _).mono ?_
  rintro e w4 ⟨rfl, hb4⟩
  have hok := ok_b2p
  have T4 := hid (T3.out.below hb4)
  have hb4' := hid (hb3.out.trans (hb4.mono hb3.out.size))
  clear hb4 T3 X3 hb3
  go_wp2_with fail
  refine (list_any _ t _ _ _ _ _ T4.out (by simp)).mono ?_
  rintro e w5 ⟨v, d, rfl, hp, hs, ho, _, hb5⟩
  obtain rfl := perm_zero hp
  obtain ⟨a, cap, rfl⟩ := ownV_empty ho
  have T5 := hid (T4.out.below hb5)
  have hb5' := hid (hb4'.out.trans (hb5.mono hb4'.out.size))
  clear hb5 T4 hb4' hp hs ho
  go_wp2_with fail
  refine (total_any _ t _ _ _ _ _ T5.out).mono ?_
  rintro e w6 ⟨rfl, rfl⟩
  go_wp2_with fail
  go_ret
  exact ⟨rfl, hb5'.out⟩

def v_b3n : V := ⟨7, 5, 3, 1, 2, ⟨#[107]⟩, true, ⟨#[120]⟩, true, ⟨#[121]⟩, 0, 6⟩
theorem ok_b3n : validB v_b3n = true := by decide
set_option maxHeartbeats 4000000 in
set_option maxRecDepth 1000000 in
theorem b3n (w : World) : Calls Try.prog 5 #[.int .i64 3, .bool false] w fun e w' => e = .returned (.bool true) ∧ Below w.heap.size w w' := by
  go_enter Try.func5, Try.ntmps5
  go_wp2_with fail
  refine (anchor_any _).mono ?_
  rintro e w1 ⟨rfl, hb1⟩
  go_wp2_with fail
  refine (new_good 3 _ (by omega) (by omega)).mono ?_
  rintro e w2 ⟨t, rfl, hT, hb⟩
  have hb0 := hid (hb1.alloc hb1.size (.cells #[.int .i64 v_b3n.kind, .int .i64 v_b3n.time, .int .i64 v_b3n.txn, .int .i64 v_b3n.op, .int .i64 v_b3n.wit, .string v_b3n.key, .bool v_b3n.want, .string v_b3n.exp, .bool v_b3n.got, .string v_b3n.obs, .int .i64 v_b3n.frm, .int .i64 v_b3n.to] 30))
  have hx := (hb.block w1.heap.size (by simp)).trans (heap_alloc_new w1 _)
  have T1 := hid hT
  have hb2 := hid (hb0.out.trans (hb.mono hb0.out.size))
  have hB := hid hb.size
  have hW := hid hb0.out.size
  have hBx := hid (show w1.heap.size < (w1.alloc (.cells #[.int .i64 v_b3n.kind, .int .i64 v_b3n.time, .int .i64 v_b3n.txn, .int .i64 v_b3n.op, .int .i64 v_b3n.wit, .string v_b3n.key, .bool v_b3n.want, .string v_b3n.exp, .bool v_b3n.got, .string v_b3n.obs, .int .i64 v_b3n.frm, .int .i64 v_b3n.to] 30)).heap.size from by simp)
  clear hT hb hb0 hb1
  have x0 : w2.cell? ⟨w1.heap.size, 0, none⟩ = some (.int .i64 7) := (blk_cell hx 0).trans rfl
  have x1 : w2.cell? ⟨w1.heap.size, 1, none⟩ = some (.int .i64 5) := (blk_cell hx 1).trans rfl
  have x2 : w2.cell? ⟨w1.heap.size, 2, none⟩ = some (.int .i64 3) := (blk_cell hx 2).trans rfl
  have x3 : w2.cell? ⟨w1.heap.size, 3, none⟩ = some (.int .i64 1) := (blk_cell hx 3).trans rfl
  have x4 : w2.cell? ⟨w1.heap.size, 4, none⟩ = some (.int .i64 2) := (blk_cell hx 4).trans rfl
  have x5 : w2.cell? ⟨w1.heap.size, 5, none⟩ = some (.string ⟨#[107]⟩) := (blk_cell hx 5).trans rfl
  have x6 : w2.cell? ⟨w1.heap.size, 6, none⟩ = some (.bool true) := (blk_cell hx 6).trans rfl
  have x7 : w2.cell? ⟨w1.heap.size, 7, none⟩ = some (.string ⟨#[120]⟩) := (blk_cell hx 7).trans rfl
  have x8 : w2.cell? ⟨w1.heap.size, 8, none⟩ = some (.bool true) := (blk_cell hx 8).trans rfl
  have x9 : w2.cell? ⟨w1.heap.size, 9, none⟩ = some (.string ⟨#[121]⟩) := (blk_cell hx 9).trans rfl
  have x10 : w2.cell? ⟨w1.heap.size, 10, none⟩ = some (.int .i64 0) := (blk_cell hx 10).trans rfl
  have x11 : w2.cell? ⟨w1.heap.size, 11, none⟩ = some (.int .i64 6) := (blk_cell hx 11).trans rfl
  have X2 := hid hx
  clear hx
  generalize w1.heap.size = bx at *
  go_wp2_with fail
  clear x0 x1 x2 x3 x4 x5 x6 x7 x8 x9 x10 x11
  refine (put_any _ t 3 0 _ [] v_b3n _ T1.out (by omega) (by omega) (by simp) (by omega) (by omega) hB.out).mono ?_
  rintro e w3 (⟨hv, _⟩ | ⟨_, rfl, hv', hT, hb⟩)
  case inl => rw [ok_b3n] at hv; cases hv
  rw [putOne] at hT
  have T3 := hid hT
  have X3 := hid ((hb.block bx hBx.out).trans X2.out)
  have hb3 := hid (hb2.out.trans (hb.mono hW.out))
  clear hT
  clear hb T1 X2 hb2 hB hW hBx
  have x0 : w3.cell? ⟨bx, 0, none⟩ = some (.int .i64 7) := (blk_cell X3.out 0).trans rfl
  have x1 : w3.cell? ⟨bx, 1, none⟩ = some (.int .i64 5) := (blk_cell X3.out 1).trans rfl
  have x2 : w3.cell? ⟨bx, 2, none⟩ = some (.int .i64 3) := (blk_cell X3.out 2).trans rfl
  have x3 : w3.cell? ⟨bx, 3, none⟩ = some (.int .i64 1) := (blk_cell X3.out 3).trans rfl
  have x4 : w3.cell? ⟨bx, 4, none⟩ = some (.int .i64 2) := (blk_cell X3.out 4).trans rfl
  have x5 : w3.cell? ⟨bx, 5, none⟩ = some (.string ⟨#[107]⟩) := (blk_cell X3.out 5).trans rfl
  have x6 : w3.cell? ⟨bx, 6, none⟩ = some (.bool true) := (blk_cell X3.out 6).trans rfl
  have x7 : w3.cell? ⟨bx, 7, none⟩ = some (.string ⟨#[120]⟩) := (blk_cell X3.out 7).trans rfl
  have x8 : w3.cell? ⟨bx, 8, none⟩ = some (.bool true) := (blk_cell X3.out 8).trans rfl
  have x9 : w3.cell? ⟨bx, 9, none⟩ = some (.string ⟨#[121]⟩) := (blk_cell X3.out 9).trans rfl
  have x10 : w3.cell? ⟨bx, 10, none⟩ = some (.int .i64 0) := (blk_cell X3.out 10).trans rfl
  have x11 : w3.cell? ⟨bx, 11, none⟩ = some (.int .i64 6) := (blk_cell X3.out 11).trans rfl
  go_wp2_with fail
  clear x0 x1 x2 x3 x4 x5 x6 x7 x8 x9 x10 x11
  refine (valid_any v_b3n _).mono ?_
  rintro e w4 ⟨rfl, hb4⟩
  have hok := ok_b3n
  have T4 := hid (T3.out.below hb4)
  have hb4' := hid (hb3.out.trans (hb4.mono hb3.out.size))
  clear hb4 T3 X3 hb3
  go_wp2_with fail
  refine (list_any _ t _ _ _ _ _ T4.out (by simp)).mono ?_
  rintro e w5 ⟨v, d, rfl, hp, hs, ho, _, hb5⟩
  obtain rfl := perm_one hp
  obtain ⟨a, cap, rfl, _⟩ := ownV_open ho (by simp)
  simp only [List.map_cons, List.map_nil, List.length_cons, List.length_nil, Nat.zero_add]
  have T5 := hid (T4.out.below hb5)
  have hb5' := hid (hb4'.out.trans (hb5.mono hb4'.out.size))
  clear hb5 T4 hb4' hp hs ho
  go_wp2_with fail
  refine (total_any _ t _ _ _ _ _ T5.out).mono ?_
  rintro e w6 ⟨rfl, rfl⟩
  go_wp2_with fail
  go_ret
  exact ⟨rfl, hb5'.out⟩

def v_b3p : V := ⟨7, 5, 3, 1, 2, ⟨#[107]⟩, true, ⟨#[120]⟩, true, ⟨#[121]⟩, -1, 6⟩
theorem ok_b3p : validB v_b3p = false := by decide
set_option maxHeartbeats 4000000 in
set_option maxRecDepth 1000000 in
theorem b3p (w : World) : Calls Try.prog 5 #[.int .i64 3, .bool true] w fun e w' => e = .returned (.bool true) ∧ Below w.heap.size w w' := by
  go_enter Try.func5, Try.ntmps5
  go_wp2_with fail
  refine (anchor_any _).mono ?_
  rintro e w1 ⟨rfl, hb1⟩
  go_wp2_with fail
  refine (new_good 3 _ (by omega) (by omega)).mono ?_
  rintro e w2 ⟨t, rfl, hT, hb⟩
  have hb0 := hid (hb1.alloc hb1.size (.cells #[.int .i64 v_b3p.kind, .int .i64 v_b3p.time, .int .i64 v_b3p.txn, .int .i64 v_b3p.op, .int .i64 v_b3p.wit, .string v_b3p.key, .bool v_b3p.want, .string v_b3p.exp, .bool v_b3p.got, .string v_b3p.obs, .int .i64 v_b3p.frm, .int .i64 v_b3p.to] 30))
  have hx := (hb.block w1.heap.size (by simp)).trans (heap_alloc_new w1 _)
  have T1 := hid hT
  have hb2 := hid (hb0.out.trans (hb.mono hb0.out.size))
  have hB := hid hb.size
  have hW := hid hb0.out.size
  have hBx := hid (show w1.heap.size < (w1.alloc (.cells #[.int .i64 v_b3p.kind, .int .i64 v_b3p.time, .int .i64 v_b3p.txn, .int .i64 v_b3p.op, .int .i64 v_b3p.wit, .string v_b3p.key, .bool v_b3p.want, .string v_b3p.exp, .bool v_b3p.got, .string v_b3p.obs, .int .i64 v_b3p.frm, .int .i64 v_b3p.to] 30)).heap.size from by simp)
  clear hT hb hb0 hb1
  have x0 : w2.cell? ⟨w1.heap.size, 0, none⟩ = some (.int .i64 7) := (blk_cell hx 0).trans rfl
  have x1 : w2.cell? ⟨w1.heap.size, 1, none⟩ = some (.int .i64 5) := (blk_cell hx 1).trans rfl
  have x2 : w2.cell? ⟨w1.heap.size, 2, none⟩ = some (.int .i64 3) := (blk_cell hx 2).trans rfl
  have x3 : w2.cell? ⟨w1.heap.size, 3, none⟩ = some (.int .i64 1) := (blk_cell hx 3).trans rfl
  have x4 : w2.cell? ⟨w1.heap.size, 4, none⟩ = some (.int .i64 2) := (blk_cell hx 4).trans rfl
  have x5 : w2.cell? ⟨w1.heap.size, 5, none⟩ = some (.string ⟨#[107]⟩) := (blk_cell hx 5).trans rfl
  have x6 : w2.cell? ⟨w1.heap.size, 6, none⟩ = some (.bool true) := (blk_cell hx 6).trans rfl
  have x7 : w2.cell? ⟨w1.heap.size, 7, none⟩ = some (.string ⟨#[120]⟩) := (blk_cell hx 7).trans rfl
  have x8 : w2.cell? ⟨w1.heap.size, 8, none⟩ = some (.bool true) := (blk_cell hx 8).trans rfl
  have x9 : w2.cell? ⟨w1.heap.size, 9, none⟩ = some (.string ⟨#[121]⟩) := (blk_cell hx 9).trans rfl
  have x10 : w2.cell? ⟨w1.heap.size, 10, none⟩ = some (.int .i64 (-1)) := (blk_cell hx 10).trans rfl
  have x11 : w2.cell? ⟨w1.heap.size, 11, none⟩ = some (.int .i64 6) := (blk_cell hx 11).trans rfl
  have X2 := hid hx
  clear hx
  generalize w1.heap.size = bx at *
  go_wp2_with fail
  clear x0 x1 x2 x3 x4 x5 x6 x7 x8 x9 x10 x11
  refine (put_any _ t 3 0 _ [] v_b3p _ T1.out (by omega) (by omega) (by simp) (by omega) (by omega) hB.out).mono ?_
  rintro e w3 (⟨_, rfl, hb⟩ | ⟨hv, _⟩)
  case inr => rw [ok_b3p] at hv; cases hv
  have T3 := hid (T1.out.below hb)
  have X3 := hid ((hb.block bx (blk_lt X2.out)).trans X2.out)
  have hb3 := hid (hb2.out.trans (hb.mono hb2.out.size))
  clear hb T1 X2 hb2 hB hW hBx
  have x0 : w3.cell? ⟨bx, 0, none⟩ = some (.int .i64 7) := (blk_cell X3.out 0).trans rfl
  have x1 : w3.cell? ⟨bx, 1, none⟩ = some (.int .i64 5) := (blk_cell X3.out 1).trans rfl
  have x2 : w3.cell? ⟨bx, 2, none⟩ = some (.int .i64 3) := (blk_cell X3.out 2).trans rfl
  have x3 : w3.cell? ⟨bx, 3, none⟩ = some (.int .i64 1) := (blk_cell X3.out 3).trans rfl
  have x4 : w3.cell? ⟨bx, 4, none⟩ = some (.int .i64 2) := (blk_cell X3.out 4).trans rfl
  have x5 : w3.cell? ⟨bx, 5, none⟩ = some (.string ⟨#[107]⟩) := (blk_cell X3.out 5).trans rfl
  have x6 : w3.cell? ⟨bx, 6, none⟩ = some (.bool true) := (blk_cell X3.out 6).trans rfl
  have x7 : w3.cell? ⟨bx, 7, none⟩ = some (.string ⟨#[120]⟩) := (blk_cell X3.out 7).trans rfl
  have x8 : w3.cell? ⟨bx, 8, none⟩ = some (.bool true) := (blk_cell X3.out 8).trans rfl
  have x9 : w3.cell? ⟨bx, 9, none⟩ = some (.string ⟨#[121]⟩) := (blk_cell X3.out 9).trans rfl
  have x10 : w3.cell? ⟨bx, 10, none⟩ = some (.int .i64 (-1)) := (blk_cell X3.out 10).trans rfl
  have x11 : w3.cell? ⟨bx, 11, none⟩ = some (.int .i64 6) := (blk_cell X3.out 11).trans rfl
  go_wp2_with fail
  clear x0 x1 x2 x3 x4 x5 x6 x7 x8 x9 x10 x11
  refine (valid_any v_b3p _).mono ?_
  rintro e w4 ⟨rfl, hb4⟩
  have hok := ok_b3p
  have T4 := hid (T3.out.below hb4)
  have hb4' := hid (hb3.out.trans (hb4.mono hb3.out.size))
  clear hb4 T3 X3 hb3
  go_wp2_with fail
  refine (list_any _ t _ _ _ _ _ T4.out (by simp)).mono ?_
  rintro e w5 ⟨v, d, rfl, hp, hs, ho, _, hb5⟩
  obtain rfl := perm_zero hp
  obtain ⟨a, cap, rfl⟩ := ownV_empty ho
  have T5 := hid (T4.out.below hb5)
  have hb5' := hid (hb4'.out.trans (hb5.mono hb4'.out.size))
  clear hb5 T4 hb4' hp hs ho
  go_wp2_with fail
  refine (total_any _ t _ _ _ _ _ T5.out).mono ?_
  rintro e w6 ⟨rfl, rfl⟩
  go_wp2_with fail
  go_ret
  exact ⟨rfl, hb5'.out⟩

def v_b4n : V := ⟨7, 5, 3, 1, 2, ⟨#[107]⟩, true, ⟨#[120]⟩, true, ⟨#[121]⟩, 4, 1099511627776⟩
theorem ok_b4n : validB v_b4n = true := by decide
set_option maxHeartbeats 4000000 in
set_option maxRecDepth 1000000 in
theorem b4n (w : World) : Calls Try.prog 5 #[.int .i64 4, .bool false] w fun e w' => e = .returned (.bool true) ∧ Below w.heap.size w w' := by
  go_enter Try.func5, Try.ntmps5
  go_wp2_with fail
  refine (anchor_any _).mono ?_
  rintro e w1 ⟨rfl, hb1⟩
  go_wp2_with fail
  refine (new_good 3 _ (by omega) (by omega)).mono ?_
  rintro e w2 ⟨t, rfl, hT, hb⟩
  have hb0 := hid (hb1.alloc hb1.size (.cells #[.int .i64 v_b4n.kind, .int .i64 v_b4n.time, .int .i64 v_b4n.txn, .int .i64 v_b4n.op, .int .i64 v_b4n.wit, .string v_b4n.key, .bool v_b4n.want, .string v_b4n.exp, .bool v_b4n.got, .string v_b4n.obs, .int .i64 v_b4n.frm, .int .i64 v_b4n.to] 30))
  have hx := (hb.block w1.heap.size (by simp)).trans (heap_alloc_new w1 _)
  have T1 := hid hT
  have hb2 := hid (hb0.out.trans (hb.mono hb0.out.size))
  have hB := hid hb.size
  have hW := hid hb0.out.size
  have hBx := hid (show w1.heap.size < (w1.alloc (.cells #[.int .i64 v_b4n.kind, .int .i64 v_b4n.time, .int .i64 v_b4n.txn, .int .i64 v_b4n.op, .int .i64 v_b4n.wit, .string v_b4n.key, .bool v_b4n.want, .string v_b4n.exp, .bool v_b4n.got, .string v_b4n.obs, .int .i64 v_b4n.frm, .int .i64 v_b4n.to] 30)).heap.size from by simp)
  clear hT hb hb0 hb1
  have x0 : w2.cell? ⟨w1.heap.size, 0, none⟩ = some (.int .i64 7) := (blk_cell hx 0).trans rfl
  have x1 : w2.cell? ⟨w1.heap.size, 1, none⟩ = some (.int .i64 5) := (blk_cell hx 1).trans rfl
  have x2 : w2.cell? ⟨w1.heap.size, 2, none⟩ = some (.int .i64 3) := (blk_cell hx 2).trans rfl
  have x3 : w2.cell? ⟨w1.heap.size, 3, none⟩ = some (.int .i64 1) := (blk_cell hx 3).trans rfl
  have x4 : w2.cell? ⟨w1.heap.size, 4, none⟩ = some (.int .i64 2) := (blk_cell hx 4).trans rfl
  have x5 : w2.cell? ⟨w1.heap.size, 5, none⟩ = some (.string ⟨#[107]⟩) := (blk_cell hx 5).trans rfl
  have x6 : w2.cell? ⟨w1.heap.size, 6, none⟩ = some (.bool true) := (blk_cell hx 6).trans rfl
  have x7 : w2.cell? ⟨w1.heap.size, 7, none⟩ = some (.string ⟨#[120]⟩) := (blk_cell hx 7).trans rfl
  have x8 : w2.cell? ⟨w1.heap.size, 8, none⟩ = some (.bool true) := (blk_cell hx 8).trans rfl
  have x9 : w2.cell? ⟨w1.heap.size, 9, none⟩ = some (.string ⟨#[121]⟩) := (blk_cell hx 9).trans rfl
  have x10 : w2.cell? ⟨w1.heap.size, 10, none⟩ = some (.int .i64 4) := (blk_cell hx 10).trans rfl
  have x11 : w2.cell? ⟨w1.heap.size, 11, none⟩ = some (.int .i64 1099511627776) := (blk_cell hx 11).trans rfl
  have X2 := hid hx
  clear hx
  generalize w1.heap.size = bx at *
  go_wp2_with fail
  clear x0 x1 x2 x3 x4 x5 x6 x7 x8 x9 x10 x11
  refine (put_any _ t 3 0 _ [] v_b4n _ T1.out (by omega) (by omega) (by simp) (by omega) (by omega) hB.out).mono ?_
  rintro e w3 (⟨hv, _⟩ | ⟨_, rfl, hv', hT, hb⟩)
  case inl => rw [ok_b4n] at hv; cases hv
  rw [putOne] at hT
  have T3 := hid hT
  have X3 := hid ((hb.block bx hBx.out).trans X2.out)
  have hb3 := hid (hb2.out.trans (hb.mono hW.out))
  clear hT
  clear hb T1 X2 hb2 hB hW hBx
  have x0 : w3.cell? ⟨bx, 0, none⟩ = some (.int .i64 7) := (blk_cell X3.out 0).trans rfl
  have x1 : w3.cell? ⟨bx, 1, none⟩ = some (.int .i64 5) := (blk_cell X3.out 1).trans rfl
  have x2 : w3.cell? ⟨bx, 2, none⟩ = some (.int .i64 3) := (blk_cell X3.out 2).trans rfl
  have x3 : w3.cell? ⟨bx, 3, none⟩ = some (.int .i64 1) := (blk_cell X3.out 3).trans rfl
  have x4 : w3.cell? ⟨bx, 4, none⟩ = some (.int .i64 2) := (blk_cell X3.out 4).trans rfl
  have x5 : w3.cell? ⟨bx, 5, none⟩ = some (.string ⟨#[107]⟩) := (blk_cell X3.out 5).trans rfl
  have x6 : w3.cell? ⟨bx, 6, none⟩ = some (.bool true) := (blk_cell X3.out 6).trans rfl
  have x7 : w3.cell? ⟨bx, 7, none⟩ = some (.string ⟨#[120]⟩) := (blk_cell X3.out 7).trans rfl
  have x8 : w3.cell? ⟨bx, 8, none⟩ = some (.bool true) := (blk_cell X3.out 8).trans rfl
  have x9 : w3.cell? ⟨bx, 9, none⟩ = some (.string ⟨#[121]⟩) := (blk_cell X3.out 9).trans rfl
  have x10 : w3.cell? ⟨bx, 10, none⟩ = some (.int .i64 4) := (blk_cell X3.out 10).trans rfl
  have x11 : w3.cell? ⟨bx, 11, none⟩ = some (.int .i64 1099511627776) := (blk_cell X3.out 11).trans rfl
  go_wp2_with fail
  clear x0 x1 x2 x3 x4 x5 x6 x7 x8 x9 x10 x11
  refine (valid_any v_b4n _).mono ?_
  rintro e w4 ⟨rfl, hb4⟩
  have hok := ok_b4n
  have T4 := hid (T3.out.below hb4)
  have hb4' := hid (hb3.out.trans (hb4.mono hb3.out.size))
  clear hb4 T3 X3 hb3
  go_wp2_with fail
  refine (list_any _ t _ _ _ _ _ T4.out (by simp)).mono ?_
  rintro e w5 ⟨v, d, rfl, hp, hs, ho, _, hb5⟩
  obtain rfl := perm_one hp
  obtain ⟨a, cap, rfl, _⟩ := ownV_open ho (by simp)
  simp only [List.map_cons, List.map_nil, List.length_cons, List.length_nil, Nat.zero_add]
  have T5 := hid (T4.out.below hb5)
  have hb5' := hid (hb4'.out.trans (hb5.mono hb4'.out.size))
  clear hb5 T4 hb4' hp hs ho
  go_wp2_with fail
  refine (total_any _ t _ _ _ _ _ T5.out).mono ?_
  rintro e w6 ⟨rfl, rfl⟩
  go_wp2_with fail
  go_ret
  exact ⟨rfl, hb5'.out⟩

def v_b4p : V := ⟨7, 5, 3, 1, 2, ⟨#[107]⟩, true, ⟨#[120]⟩, true, ⟨#[121]⟩, 4, 1099511627777⟩
theorem ok_b4p : validB v_b4p = false := by decide
set_option maxHeartbeats 4000000 in
set_option maxRecDepth 1000000 in
theorem b4p (w : World) : Calls Try.prog 5 #[.int .i64 4, .bool true] w fun e w' => e = .returned (.bool true) ∧ Below w.heap.size w w' := by
  go_enter Try.func5, Try.ntmps5
  go_wp2_with fail
  refine (anchor_any _).mono ?_
  rintro e w1 ⟨rfl, hb1⟩
  go_wp2_with fail
  refine (new_good 3 _ (by omega) (by omega)).mono ?_
  rintro e w2 ⟨t, rfl, hT, hb⟩
  have hb0 := hid (hb1.alloc hb1.size (.cells #[.int .i64 v_b4p.kind, .int .i64 v_b4p.time, .int .i64 v_b4p.txn, .int .i64 v_b4p.op, .int .i64 v_b4p.wit, .string v_b4p.key, .bool v_b4p.want, .string v_b4p.exp, .bool v_b4p.got, .string v_b4p.obs, .int .i64 v_b4p.frm, .int .i64 v_b4p.to] 30))
  have hx := (hb.block w1.heap.size (by simp)).trans (heap_alloc_new w1 _)
  have T1 := hid hT
  have hb2 := hid (hb0.out.trans (hb.mono hb0.out.size))
  have hB := hid hb.size
  have hW := hid hb0.out.size
  have hBx := hid (show w1.heap.size < (w1.alloc (.cells #[.int .i64 v_b4p.kind, .int .i64 v_b4p.time, .int .i64 v_b4p.txn, .int .i64 v_b4p.op, .int .i64 v_b4p.wit, .string v_b4p.key, .bool v_b4p.want, .string v_b4p.exp, .bool v_b4p.got, .string v_b4p.obs, .int .i64 v_b4p.frm, .int .i64 v_b4p.to] 30)).heap.size from by simp)
  clear hT hb hb0 hb1
  have x0 : w2.cell? ⟨w1.heap.size, 0, none⟩ = some (.int .i64 7) := (blk_cell hx 0).trans rfl
  have x1 : w2.cell? ⟨w1.heap.size, 1, none⟩ = some (.int .i64 5) := (blk_cell hx 1).trans rfl
  have x2 : w2.cell? ⟨w1.heap.size, 2, none⟩ = some (.int .i64 3) := (blk_cell hx 2).trans rfl
  have x3 : w2.cell? ⟨w1.heap.size, 3, none⟩ = some (.int .i64 1) := (blk_cell hx 3).trans rfl
  have x4 : w2.cell? ⟨w1.heap.size, 4, none⟩ = some (.int .i64 2) := (blk_cell hx 4).trans rfl
  have x5 : w2.cell? ⟨w1.heap.size, 5, none⟩ = some (.string ⟨#[107]⟩) := (blk_cell hx 5).trans rfl
  have x6 : w2.cell? ⟨w1.heap.size, 6, none⟩ = some (.bool true) := (blk_cell hx 6).trans rfl
  have x7 : w2.cell? ⟨w1.heap.size, 7, none⟩ = some (.string ⟨#[120]⟩) := (blk_cell hx 7).trans rfl
  have x8 : w2.cell? ⟨w1.heap.size, 8, none⟩ = some (.bool true) := (blk_cell hx 8).trans rfl
  have x9 : w2.cell? ⟨w1.heap.size, 9, none⟩ = some (.string ⟨#[121]⟩) := (blk_cell hx 9).trans rfl
  have x10 : w2.cell? ⟨w1.heap.size, 10, none⟩ = some (.int .i64 4) := (blk_cell hx 10).trans rfl
  have x11 : w2.cell? ⟨w1.heap.size, 11, none⟩ = some (.int .i64 1099511627777) := (blk_cell hx 11).trans rfl
  have X2 := hid hx
  clear hx
  generalize w1.heap.size = bx at *
  go_wp2_with fail
  clear x0 x1 x2 x3 x4 x5 x6 x7 x8 x9 x10 x11
  refine (put_any _ t 3 0 _ [] v_b4p _ T1.out (by omega) (by omega) (by simp) (by omega) (by omega) hB.out).mono ?_
  rintro e w3 (⟨_, rfl, hb⟩ | ⟨hv, _⟩)
  case inr => rw [ok_b4p] at hv; cases hv
  have T3 := hid (T1.out.below hb)
  have X3 := hid ((hb.block bx (blk_lt X2.out)).trans X2.out)
  have hb3 := hid (hb2.out.trans (hb.mono hb2.out.size))
  clear hb T1 X2 hb2 hB hW hBx
  have x0 : w3.cell? ⟨bx, 0, none⟩ = some (.int .i64 7) := (blk_cell X3.out 0).trans rfl
  have x1 : w3.cell? ⟨bx, 1, none⟩ = some (.int .i64 5) := (blk_cell X3.out 1).trans rfl
  have x2 : w3.cell? ⟨bx, 2, none⟩ = some (.int .i64 3) := (blk_cell X3.out 2).trans rfl
  have x3 : w3.cell? ⟨bx, 3, none⟩ = some (.int .i64 1) := (blk_cell X3.out 3).trans rfl
  have x4 : w3.cell? ⟨bx, 4, none⟩ = some (.int .i64 2) := (blk_cell X3.out 4).trans rfl
  have x5 : w3.cell? ⟨bx, 5, none⟩ = some (.string ⟨#[107]⟩) := (blk_cell X3.out 5).trans rfl
  have x6 : w3.cell? ⟨bx, 6, none⟩ = some (.bool true) := (blk_cell X3.out 6).trans rfl
  have x7 : w3.cell? ⟨bx, 7, none⟩ = some (.string ⟨#[120]⟩) := (blk_cell X3.out 7).trans rfl
  have x8 : w3.cell? ⟨bx, 8, none⟩ = some (.bool true) := (blk_cell X3.out 8).trans rfl
  have x9 : w3.cell? ⟨bx, 9, none⟩ = some (.string ⟨#[121]⟩) := (blk_cell X3.out 9).trans rfl
  have x10 : w3.cell? ⟨bx, 10, none⟩ = some (.int .i64 4) := (blk_cell X3.out 10).trans rfl
  have x11 : w3.cell? ⟨bx, 11, none⟩ = some (.int .i64 1099511627777) := (blk_cell X3.out 11).trans rfl
  go_wp2_with fail
  clear x0 x1 x2 x3 x4 x5 x6 x7 x8 x9 x10 x11
  refine (valid_any v_b4p _).mono ?_
  rintro e w4 ⟨rfl, hb4⟩
  have hok := ok_b4p
  have T4 := hid (T3.out.below hb4)
  have hb4' := hid (hb3.out.trans (hb4.mono hb3.out.size))
  clear hb4 T3 X3 hb3
  go_wp2_with fail
  refine (list_any _ t _ _ _ _ _ T4.out (by simp)).mono ?_
  rintro e w5 ⟨v, d, rfl, hp, hs, ho, _, hb5⟩
  obtain rfl := perm_zero hp
  obtain ⟨a, cap, rfl⟩ := ownV_empty ho
  have T5 := hid (T4.out.below hb5)
  have hb5' := hid (hb4'.out.trans (hb5.mono hb4'.out.size))
  clear hb5 T4 hb4' hp hs ho
  go_wp2_with fail
  refine (total_any _ t _ _ _ _ _ T5.out).mono ?_
  rintro e w6 ⟨rfl, rfl⟩
  go_wp2_with fail
  go_ret
  exact ⟨rfl, hb5'.out⟩

end Go.Proofs.Ytgimpkbknaopcaa
