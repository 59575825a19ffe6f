/- The walk of ViolBounds. No statement is proved here. -/
import Derived.Test.YtgimpkbknaopcaaVOb
set_option linter.unusedVariables false
set_option linter.unusedSimpArgs false
namespace Go.Proofs.Ytgimpkbknaopcaa
open Go.RowKit Go.Shelf Go.Lib
open Go.Sort hiding Below

def v_b5n : V := ⟨7, 5, 4095, 1, 2, ⟨#[107]⟩, true, ⟨#[120]⟩, true, ⟨#[121]⟩, 4, 6⟩
theorem ok_b5n : validB v_b5n = true := by decide
set_option maxHeartbeats 4000000 in
set_option maxRecDepth 1000000 in
theorem b5n (w : World) : Calls Try.prog 5 #[.int .i64 5, .bool false] w fun e w' => e = .returned (.bool true) ∧ Below w.heap.size w w' := by
  go_enter Try.func5, Try.ntmps5
  go_wp2_with fail
  refine (anchor_any _).mono ?_
  rintro e w1 ⟨rfl, hb1⟩
  go_wp2_with fail
  refine (new_good 3 _ (by omega) (by omega)).mono ?_
  rintro e w2 ⟨t, rfl, hT, hb⟩
  have hb0 := hid (hb1.alloc hb1.size (.cells #[.int .i64 v_b5n.kind, .int .i64 v_b5n.time, .int .i64 v_b5n.txn, .int .i64 v_b5n.op, .int .i64 v_b5n.wit, .string v_b5n.key, .bool v_b5n.want, .string v_b5n.exp, .bool v_b5n.got, .string v_b5n.obs, .int .i64 v_b5n.frm, .int .i64 v_b5n.to] 30))
  have hx := (hb.block w1.heap.size (by simp)).trans (heap_alloc_new w1 _)
  have T1 := hid hT
  have hb2 := hid (hb0.out.trans (hb.mono hb0.out.size))
  have hB := hid hb.size
  have hW := hid hb0.out.size
  have hBx := hid (show w1.heap.size < (w1.alloc (.cells #[.int .i64 v_b5n.kind, .int .i64 v_b5n.time, .int .i64 v_b5n.txn, .int .i64 v_b5n.op, .int .i64 v_b5n.wit, .string v_b5n.key, .bool v_b5n.want, .string v_b5n.exp, .bool v_b5n.got, .string v_b5n.obs, .int .i64 v_b5n.frm, .int .i64 v_b5n.to] 30)).heap.size from by simp)
  clear hT hb hb0 hb1
  have x0 : w2.cell? ⟨w1.heap.size, 0, none⟩ = some (.int .i64 7) := (blk_cell hx 0).trans rfl
  have x1 : w2.cell? ⟨w1.heap.size, 1, none⟩ = some (.int .i64 5) := (blk_cell hx 1).trans rfl
  have x2 : w2.cell? ⟨w1.heap.size, 2, none⟩ = some (.int .i64 4095) := (blk_cell hx 2).trans rfl
  have x3 : w2.cell? ⟨w1.heap.size, 3, none⟩ = some (.int .i64 1) := (blk_cell hx 3).trans rfl
  have x4 : w2.cell? ⟨w1.heap.size, 4, none⟩ = some (.int .i64 2) := (blk_cell hx 4).trans rfl
  have x5 : w2.cell? ⟨w1.heap.size, 5, none⟩ = some (.string ⟨#[107]⟩) := (blk_cell hx 5).trans rfl
  have x6 : w2.cell? ⟨w1.heap.size, 6, none⟩ = some (.bool true) := (blk_cell hx 6).trans rfl
  have x7 : w2.cell? ⟨w1.heap.size, 7, none⟩ = some (.string ⟨#[120]⟩) := (blk_cell hx 7).trans rfl
  have x8 : w2.cell? ⟨w1.heap.size, 8, none⟩ = some (.bool true) := (blk_cell hx 8).trans rfl
  have x9 : w2.cell? ⟨w1.heap.size, 9, none⟩ = some (.string ⟨#[121]⟩) := (blk_cell hx 9).trans rfl
  have x10 : w2.cell? ⟨w1.heap.size, 10, none⟩ = some (.int .i64 4) := (blk_cell hx 10).trans rfl
  have x11 : w2.cell? ⟨w1.heap.size, 11, none⟩ = some (.int .i64 6) := (blk_cell hx 11).trans rfl
  have X2 := hid hx
  clear hx
  generalize w1.heap.size = bx at *
  go_wp2_with fail
  clear x0 x1 x2 x3 x4 x5 x6 x7 x8 x9 x10 x11
  refine (put_any _ t 3 0 _ [] v_b5n _ T1.out (by omega) (by omega) (by simp) (by omega) (by omega) hB.out).mono ?_
  rintro e w3 (⟨hv, _⟩ | ⟨_, rfl, hv', hT, hb⟩)
  case inl => rw [ok_b5n] at hv; cases hv
  rw [putOne] at hT
  have T3 := hid hT
  have X3 := hid ((hb.block bx hBx.out).trans X2.out)
  have hb3 := hid (hb2.out.trans (hb.mono hW.out))
  clear hT
  clear hb T1 X2 hb2 hB hW hBx
  have x0 : w3.cell? ⟨bx, 0, none⟩ = some (.int .i64 7) := (blk_cell X3.out 0).trans rfl
  have x1 : w3.cell? ⟨bx, 1, none⟩ = some (.int .i64 5) := (blk_cell X3.out 1).trans rfl
  have x2 : w3.cell? ⟨bx, 2, none⟩ = some (.int .i64 4095) := (blk_cell X3.out 2).trans rfl
  have x3 : w3.cell? ⟨bx, 3, none⟩ = some (.int .i64 1) := (blk_cell X3.out 3).trans rfl
  have x4 : w3.cell? ⟨bx, 4, none⟩ = some (.int .i64 2) := (blk_cell X3.out 4).trans rfl
  have x5 : w3.cell? ⟨bx, 5, none⟩ = some (.string ⟨#[107]⟩) := (blk_cell X3.out 5).trans rfl
  have x6 : w3.cell? ⟨bx, 6, none⟩ = some (.bool true) := (blk_cell X3.out 6).trans rfl
  have x7 : w3.cell? ⟨bx, 7, none⟩ = some (.string ⟨#[120]⟩) := (blk_cell X3.out 7).trans rfl
  have x8 : w3.cell? ⟨bx, 8, none⟩ = some (.bool true) := (blk_cell X3.out 8).trans rfl
  have x9 : w3.cell? ⟨bx, 9, none⟩ = some (.string ⟨#[121]⟩) := (blk_cell X3.out 9).trans rfl
  have x10 : w3.cell? ⟨bx, 10, none⟩ = some (.int .i64 4) := (blk_cell X3.out 10).trans rfl
  have x11 : w3.cell? ⟨bx, 11, none⟩ = some (.int .i64 6) := (blk_cell X3.out 11).trans rfl
  go_wp2_with fail
  clear x0 x1 x2 x3 x4 x5 x6 x7 x8 x9 x10 x11
  refine (valid_any v_b5n _).mono ?_
  rintro e w4 ⟨rfl, hb4⟩
  have hok := ok_b5n
  have T4 := hid (T3.out.below hb4)
  have hb4' := hid (hb3.out.trans (hb4.mono hb3.out.size))
  clear hb4 T3 X3 hb3
  go_wp2_with fail
  refine (list_any _ t _ _ _ _ _ T4.out (by simp)).mono ?_
  rintro e w5 ⟨v, d, rfl, hp, hs, ho, _, hb5⟩
  obtain rfl := perm_one hp
  obtain ⟨a, cap, rfl, _⟩ := ownV_open ho (by simp)
  simp only [List.map_cons, List.map_nil, List.length_cons, List.length_nil, Nat.zero_add]
  have T5 := hid (T4.out.below hb5)
  have hb5' := hid (hb4'.out.trans (hb5.mono hb4'.out.size))
  clear hb5 T4 hb4' hp hs ho
  go_wp2_with fail
  refine (total_any _ t _ _ _ _ _ T5.out).mono ?_
  rintro e w6 ⟨rfl, rfl⟩
  go_wp2_with fail
  go_ret
  exact ⟨rfl, hb5'.out⟩

def v_b5p : V := ⟨7, 5, 4096, 1, 2, ⟨#[107]⟩, true, ⟨#[120]⟩, true, ⟨#[121]⟩, 4, 6⟩
theorem ok_b5p : validB v_b5p = false := by decide
set_option maxHeartbeats 4000000 in
set_option maxRecDepth 1000000 in
theorem b5p (w : World) : Calls Try.prog 5 #[.int .i64 5, .bool true] w fun e w' => e = .returned (.bool true) ∧ Below w.heap.size w w' := by
  go_enter Try.func5, Try.ntmps5
  go_wp2_with fail
  refine (anchor_any _).mono ?_
  rintro e w1 ⟨rfl, hb1⟩
  go_wp2_with fail
  refine (new_good 3 _ (by omega) (by omega)).mono ?_
  rintro e w2 ⟨t, rfl, hT, hb⟩
  have hb0 := hid (hb1.alloc hb1.size (.cells #[.int .i64 v_b5p.kind, .int .i64 v_b5p.time, .int .i64 v_b5p.txn, .int .i64 v_b5p.op, .int .i64 v_b5p.wit, .string v_b5p.key, .bool v_b5p.want, .string v_b5p.exp, .bool v_b5p.got, .string v_b5p.obs, .int .i64 v_b5p.frm, .int .i64 v_b5p.to] 30))
  have hx := (hb.block w1.heap.size (by simp)).trans (heap_alloc_new w1 _)
  have T1 := hid hT
  have hb2 := hid (hb0.out.trans (hb.mono hb0.out.size))
  have hB := hid hb.size
  have hW := hid hb0.out.size
  have hBx := hid (show w1.heap.size < (w1.alloc (.cells #[.int .i64 v_b5p.kind, .int .i64 v_b5p.time, .int .i64 v_b5p.txn, .int .i64 v_b5p.op, .int .i64 v_b5p.wit, .string v_b5p.key, .bool v_b5p.want, .string v_b5p.exp, .bool v_b5p.got, .string v_b5p.obs, .int .i64 v_b5p.frm, .int .i64 v_b5p.to] 30)).heap.size from by simp)
  clear hT hb hb0 hb1
  have x0 : w2.cell? ⟨w1.heap.size, 0, none⟩ = some (.int .i64 7) := (blk_cell hx 0).trans rfl
  have x1 : w2.cell? ⟨w1.heap.size, 1, none⟩ = some (.int .i64 5) := (blk_cell hx 1).trans rfl
  have x2 : w2.cell? ⟨w1.heap.size, 2, none⟩ = some (.int .i64 4096) := (blk_cell hx 2).trans rfl
  have x3 : w2.cell? ⟨w1.heap.size, 3, none⟩ = some (.int .i64 1) := (blk_cell hx 3).trans rfl
  have x4 : w2.cell? ⟨w1.heap.size, 4, none⟩ = some (.int .i64 2) := (blk_cell hx 4).trans rfl
  have x5 : w2.cell? ⟨w1.heap.size, 5, none⟩ = some (.string ⟨#[107]⟩) := (blk_cell hx 5).trans rfl
  have x6 : w2.cell? ⟨w1.heap.size, 6, none⟩ = some (.bool true) := (blk_cell hx 6).trans rfl
  have x7 : w2.cell? ⟨w1.heap.size, 7, none⟩ = some (.string ⟨#[120]⟩) := (blk_cell hx 7).trans rfl
  have x8 : w2.cell? ⟨w1.heap.size, 8, none⟩ = some (.bool true) := (blk_cell hx 8).trans rfl
  have x9 : w2.cell? ⟨w1.heap.size, 9, none⟩ = some (.string ⟨#[121]⟩) := (blk_cell hx 9).trans rfl
  have x10 : w2.cell? ⟨w1.heap.size, 10, none⟩ = some (.int .i64 4) := (blk_cell hx 10).trans rfl
  have x11 : w2.cell? ⟨w1.heap.size, 11, none⟩ = some (.int .i64 6) := (blk_cell hx 11).trans rfl
  have X2 := hid hx
  clear hx
  generalize w1.heap.size = bx at *
  go_wp2_with fail
  clear x0 x1 x2 x3 x4 x5 x6 x7 x8 x9 x10 x11
  refine (put_any _ t 3 0 _ [] v_b5p _ T1.out (by omega) (by omega) (by simp) (by omega) (by omega) hB.out).mono ?_
  rintro e w3 (⟨_, rfl, hb⟩ | ⟨hv, _⟩)
  case inr => rw [ok_b5p] at hv; cases hv
  have T3 := hid (T1.out.below hb)
  have X3 := hid ((hb.block bx (blk_lt X2.out)).trans X2.out)
  have hb3 := hid (hb2.out.trans (hb.mono hb2.out.size))
  clear hb T1 X2 hb2 hB hW hBx
  have x0 : w3.cell? ⟨bx, 0, none⟩ = some (.int .i64 7) := (blk_cell X3.out 0).trans rfl
  have x1 : w3.cell? ⟨bx, 1, none⟩ = some (.int .i64 5) := (blk_cell X3.out 1).trans rfl
  have x2 : w3.cell? ⟨bx, 2, none⟩ = some (.int .i64 4096) := (blk_cell X3.out 2).trans rfl
  have x3 : w3.cell? ⟨bx, 3, none⟩ = some (.int .i64 1) := (blk_cell X3.out 3).trans rfl
  have x4 : w3.cell? ⟨bx, 4, none⟩ = some (.int .i64 2) := (blk_cell X3.out 4).trans rfl
  have x5 : w3.cell? ⟨bx, 5, none⟩ = some (.string ⟨#[107]⟩) := (blk_cell X3.out 5).trans rfl
  have x6 : w3.cell? ⟨bx, 6, none⟩ = some (.bool true) := (blk_cell X3.out 6).trans rfl
  have x7 : w3.cell? ⟨bx, 7, none⟩ = some (.string ⟨#[120]⟩) := (blk_cell X3.out 7).trans rfl
  have x8 : w3.cell? ⟨bx, 8, none⟩ = some (.bool true) := (blk_cell X3.out 8).trans rfl
  have x9 : w3.cell? ⟨bx, 9, none⟩ = some (.string ⟨#[121]⟩) := (blk_cell X3.out 9).trans rfl
  have x10 : w3.cell? ⟨bx, 10, none⟩ = some (.int .i64 4) := (blk_cell X3.out 10).trans rfl
  have x11 : w3.cell? ⟨bx, 11, none⟩ = some (.int .i64 6) := (blk_cell X3.out 11).trans rfl
  go_wp2_with fail
  clear x0 x1 x2 x3 x4 x5 x6 x7 x8 x9 x10 x11
  refine (valid_any v_b5p _).mono ?_
  rintro e w4 ⟨rfl, hb4⟩
  have hok := ok_b5p
  have T4 := hid (T3.out.below hb4)
  have hb4' := hid (hb3.out.trans (hb4.mono hb3.out.size))
  clear hb4 T3 X3 hb3
  go_wp2_with fail
  refine (list_any _ t _ _ _ _ _ T4.out (by simp)).mono ?_
  rintro e w5 ⟨v, d, rfl, hp, hs, ho, _, hb5⟩
  obtain rfl := perm_zero hp
  obtain ⟨a, cap, rfl⟩ := ownV_empty ho
  have T5 := hid (T4.out.below hb5)
  have hb5' := hid (hb4'.out.trans (hb5.mono hb4'.out.size))
  clear hb5 T4 hb4' hp hs ho
  go_wp2_with fail
  refine (total_any _ t _ _ _ _ _ T5.out).mono ?_
  rintro e w6 ⟨rfl, rfl⟩
  go_wp2_with fail
  go_ret
  exact ⟨rfl, hb5'.out⟩

def v_b6n : V := ⟨7, 5, 3, 1, -1, ⟨#[107]⟩, true, ⟨#[120]⟩, true, ⟨#[121]⟩, 4, 6⟩
theorem ok_b6n : validB v_b6n = true := by decide
set_option maxHeartbeats 4000000 in
set_option maxRecDepth 1000000 in
theorem b6n (w : World) : Calls Try.prog 5 #[.int .i64 6, .bool false] w fun e w' => e = .returned (.bool true) ∧ Below w.heap.size w w' := by
  go_enter Try.func5, Try.ntmps5
  go_wp2_with fail
  refine (anchor_any _).mono ?_
  rintro e w1 ⟨rfl, hb1⟩
  go_wp2_with fail
  refine (new_good 3 _ (by omega) (by omega)).mono ?_
  rintro e w2 ⟨t, rfl, hT, hb⟩
  have hb0 := hid (hb1.alloc hb1.size (.cells #[.int .i64 v_b6n.kind, .int .i64 v_b6n.time, .int .i64 v_b6n.txn, .int .i64 v_b6n.op, .int .i64 v_b6n.wit, .string v_b6n.key, .bool v_b6n.want, .string v_b6n.exp, .bool v_b6n.got, .string v_b6n.obs, .int .i64 v_b6n.frm, .int .i64 v_b6n.to] 30))
  have hx := (hb.block w1.heap.size (by simp)).trans (heap_alloc_new w1 _)
  have T1 := hid hT
  have hb2 := hid (hb0.out.trans (hb.mono hb0.out.size))
  have hB := hid hb.size
  have hW := hid hb0.out.size
  have hBx := hid (show w1.heap.size < (w1.alloc (.cells #[.int .i64 v_b6n.kind, .int .i64 v_b6n.time, .int .i64 v_b6n.txn, .int .i64 v_b6n.op, .int .i64 v_b6n.wit, .string v_b6n.key, .bool v_b6n.want, .string v_b6n.exp, .bool v_b6n.got, .string v_b6n.obs, .int .i64 v_b6n.frm, .int .i64 v_b6n.to] 30)).heap.size from by simp)
  clear hT hb hb0 hb1
  have x0 : w2.cell? ⟨w1.heap.size, 0, none⟩ = some (.int .i64 7) := (blk_cell hx 0).trans rfl
  have x1 : w2.cell? ⟨w1.heap.size, 1, none⟩ = some (.int .i64 5) := (blk_cell hx 1).trans rfl
  have x2 : w2.cell? ⟨w1.heap.size, 2, none⟩ = some (.int .i64 3) := (blk_cell hx 2).trans rfl
  have x3 : w2.cell? ⟨w1.heap.size, 3, none⟩ = some (.int .i64 1) := (blk_cell hx 3).trans rfl
  have x4 : w2.cell? ⟨w1.heap.size, 4, none⟩ = some (.int .i64 (-1)) := (blk_cell hx 4).trans rfl
  have x5 : w2.cell? ⟨w1.heap.size, 5, none⟩ = some (.string ⟨#[107]⟩) := (blk_cell hx 5).trans rfl
  have x6 : w2.cell? ⟨w1.heap.size, 6, none⟩ = some (.bool true) := (blk_cell hx 6).trans rfl
  have x7 : w2.cell? ⟨w1.heap.size, 7, none⟩ = some (.string ⟨#[120]⟩) := (blk_cell hx 7).trans rfl
  have x8 : w2.cell? ⟨w1.heap.size, 8, none⟩ = some (.bool true) := (blk_cell hx 8).trans rfl
  have x9 : w2.cell? ⟨w1.heap.size, 9, none⟩ = some (.string ⟨#[121]⟩) := (blk_cell hx 9).trans rfl
  have x10 : w2.cell? ⟨w1.heap.size, 10, none⟩ = some (.int .i64 4) := (blk_cell hx 10).trans rfl
  have x11 : w2.cell? ⟨w1.heap.size, 11, none⟩ = some (.int .i64 6) := (blk_cell hx 11).trans rfl
  have X2 := hid hx
  clear hx
  generalize w1.heap.size = bx at *
  go_wp2_with fail
  clear x0 x1 x2 x3 x4 x5 x6 x7 x8 x9 x10 x11
  refine (put_any _ t 3 0 _ [] v_b6n _ T1.out (by omega) (by omega) (by simp) (by omega) (by omega) hB.out).mono ?_
  rintro e w3 (⟨hv, _⟩ | ⟨_, rfl, hv', hT, hb⟩)
  case inl => rw [ok_b6n] at hv; cases hv
  rw [putOne] at hT
  have T3 := hid hT
  have X3 := hid ((hb.block bx hBx.out).trans X2.out)
  have hb3 := hid (hb2.out.trans (hb.mono hW.out))
  clear hT
  clear hb T1 X2 hb2 hB hW hBx
  have x0 : w3.cell? ⟨bx, 0, none⟩ = some (.int .i64 7) := (blk_cell X3.out 0).trans rfl
  have x1 : w3.cell? ⟨bx, 1, none⟩ = some (.int .i64 5) := (blk_cell X3.out 1).trans rfl
  have x2 : w3.cell? ⟨bx, 2, none⟩ = some (.int .i64 3) := (blk_cell X3.out 2).trans rfl
  have x3 : w3.cell? ⟨bx, 3, none⟩ = some (.int .i64 1) := (blk_cell X3.out 3).trans rfl
  have x4 : w3.cell? ⟨bx, 4, none⟩ = some (.int .i64 (-1)) := (blk_cell X3.out 4).trans rfl
  have x5 : w3.cell? ⟨bx, 5, none⟩ = some (.string ⟨#[107]⟩) := (blk_cell X3.out 5).trans rfl
  have x6 : w3.cell? ⟨bx, 6, none⟩ = some (.bool true) := (blk_cell X3.out 6).trans rfl
  have x7 : w3.cell? ⟨bx, 7, none⟩ = some (.string ⟨#[120]⟩) := (blk_cell X3.out 7).trans rfl
  have x8 : w3.cell? ⟨bx, 8, none⟩ = some (.bool true) := (blk_cell X3.out 8).trans rfl
  have x9 : w3.cell? ⟨bx, 9, none⟩ = some (.string ⟨#[121]⟩) := (blk_cell X3.out 9).trans rfl
  have x10 : w3.cell? ⟨bx, 10, none⟩ = some (.int .i64 4) := (blk_cell X3.out 10).trans rfl
  have x11 : w3.cell? ⟨bx, 11, none⟩ = some (.int .i64 6) := (blk_cell X3.out 11).trans rfl
  go_wp2_with fail
  clear x0 x1 x2 x3 x4 x5 x6 x7 x8 x9 x10 x11
  refine (valid_any v_b6n _).mono ?_
  rintro e w4 ⟨rfl, hb4⟩
  have hok := ok_b6n
  have T4 := hid (T3.out.below hb4)
  have hb4' := hid (hb3.out.trans (hb4.mono hb3.out.size))
  clear hb4 T3 X3 hb3
  go_wp2_with fail
  refine (list_any _ t _ _ _ _ _ T4.out (by simp)).mono ?_
  rintro e w5 ⟨v, d, rfl, hp, hs, ho, _, hb5⟩
  obtain rfl := perm_one hp
  obtain ⟨a, cap, rfl, _⟩ := ownV_open ho (by simp)
  simp only [List.map_cons, List.map_nil, List.length_cons, List.length_nil, Nat.zero_add]
  have T5 := hid (T4.out.below hb5)
  have hb5' := hid (hb4'.out.trans (hb5.mono hb4'.out.size))
  clear hb5 T4 hb4' hp hs ho
  go_wp2_with fail
  refine (total_any _ t _ _ _ _ _ T5.out).mono ?_
  rintro e w6 ⟨rfl, rfl⟩
  go_wp2_with fail
  go_ret
  exact ⟨rfl, hb5'.out⟩

def v_b6p : V := ⟨7, 5, 3, 1, -2, ⟨#[107]⟩, true, ⟨#[120]⟩, true, ⟨#[121]⟩, 4, 6⟩
theorem ok_b6p : validB v_b6p = false := by decide
set_option maxHeartbeats 4000000 in
set_option maxRecDepth 1000000 in
theorem b6p (w : World) : Calls Try.prog 5 #[.int .i64 6, .bool true] w fun e w' => e = .returned (.bool true) ∧ Below w.heap.size w w' := by
  go_enter Try.func5, Try.ntmps5
  go_wp2_with fail
  refine (anchor_any _).mono ?_
  rintro e w1 ⟨rfl, hb1⟩
  go_wp2_with fail
  refine (new_good 3 _ (by omega) (by omega)).mono ?_
  rintro e w2 ⟨t, rfl, hT, hb⟩
  have hb0 := hid (hb1.alloc hb1.size (.cells #[.int .i64 v_b6p.kind, .int .i64 v_b6p.time, .int .i64 v_b6p.txn, .int .i64 v_b6p.op, .int .i64 v_b6p.wit, .string v_b6p.key, .bool v_b6p.want, .string v_b6p.exp, .bool v_b6p.got, .string v_b6p.obs, .int .i64 v_b6p.frm, .int .i64 v_b6p.to] 30))
  have hx := (hb.block w1.heap.size (by simp)).trans (heap_alloc_new w1 _)
  have T1 := hid hT
  have hb2 := hid (hb0.out.trans (hb.mono hb0.out.size))
  have hB := hid hb.size
  have hW := hid hb0.out.size
  have hBx := hid (show w1.heap.size < (w1.alloc (.cells #[.int .i64 v_b6p.kind, .int .i64 v_b6p.time, .int .i64 v_b6p.txn, .int .i64 v_b6p.op, .int .i64 v_b6p.wit, .string v_b6p.key, .bool v_b6p.want, .string v_b6p.exp, .bool v_b6p.got, .string v_b6p.obs, .int .i64 v_b6p.frm, .int .i64 v_b6p.to] 30)).heap.size from by simp)
  clear hT hb hb0 hb1
  have x0 : w2.cell? ⟨w1.heap.size, 0, none⟩ = some (.int .i64 7) := (blk_cell hx 0).trans rfl
  have x1 : w2.cell? ⟨w1.heap.size, 1, none⟩ = some (.int .i64 5) := (blk_cell hx 1).trans rfl
  have x2 : w2.cell? ⟨w1.heap.size, 2, none⟩ = some (.int .i64 3) := (blk_cell hx 2).trans rfl
  have x3 : w2.cell? ⟨w1.heap.size, 3, none⟩ = some (.int .i64 1) := (blk_cell hx 3).trans rfl
  have x4 : w2.cell? ⟨w1.heap.size, 4, none⟩ = some (.int .i64 (-2)) := (blk_cell hx 4).trans rfl
  have x5 : w2.cell? ⟨w1.heap.size, 5, none⟩ = some (.string ⟨#[107]⟩) := (blk_cell hx 5).trans rfl
  have x6 : w2.cell? ⟨w1.heap.size, 6, none⟩ = some (.bool true) := (blk_cell hx 6).trans rfl
  have x7 : w2.cell? ⟨w1.heap.size, 7, none⟩ = some (.string ⟨#[120]⟩) := (blk_cell hx 7).trans rfl
  have x8 : w2.cell? ⟨w1.heap.size, 8, none⟩ = some (.bool true) := (blk_cell hx 8).trans rfl
  have x9 : w2.cell? ⟨w1.heap.size, 9, none⟩ = some (.string ⟨#[121]⟩) := (blk_cell hx 9).trans rfl
  have x10 : w2.cell? ⟨w1.heap.size, 10, none⟩ = some (.int .i64 4) := (blk_cell hx 10).trans rfl
  have x11 : w2.cell? ⟨w1.heap.size, 11, none⟩ = some (.int .i64 6) := (blk_cell hx 11).trans rfl
  have X2 := hid hx
  clear hx
  generalize w1.heap.size = bx at *
  go_wp2_with fail
  clear x0 x1 x2 x3 x4 x5 x6 x7 x8 x9 x10 x11
  refine (put_any _ t 3 0 _ [] v_b6p _ T1.out (by omega) (by omega) (by simp) (by omega) (by omega) hB.out).mono ?_
  rintro e w3 (⟨_, rfl, hb⟩ | ⟨hv, _⟩)
  case inr => rw [ok_b6p] at hv; cases hv
  have T3 := hid (T1.out.below hb)
  have X3 := hid ((hb.block bx (blk_lt X2.out)).trans X2.out)
  have hb3 := hid (hb2.out.trans (hb.mono hb2.out.size))
  clear hb T1 X2 hb2 hB hW hBx
  have x0 : w3.cell? ⟨bx, 0, none⟩ = some (.int .i64 7) := (blk_cell X3.out 0).trans rfl
  have x1 : w3.cell? ⟨bx, 1, none⟩ = some (.int .i64 5) := (blk_cell X3.out 1).trans rfl
  have x2 : w3.cell? ⟨bx, 2, none⟩ = some (.int .i64 3) := (blk_cell X3.out 2).trans rfl
  have x3 : w3.cell? ⟨bx, 3, none⟩ = some (.int .i64 1) := (blk_cell X3.out 3).trans rfl
  have x4 : w3.cell? ⟨bx, 4, none⟩ = some (.int .i64 (-2)) := (blk_cell X3.out 4).trans rfl
  have x5 : w3.cell? ⟨bx, 5, none⟩ = some (.string ⟨#[107]⟩) := (blk_cell X3.out 5).trans rfl
  have x6 : w3.cell? ⟨bx, 6, none⟩ = some (.bool true) := (blk_cell X3.out 6).trans rfl
  have x7 : w3.cell? ⟨bx, 7, none⟩ = some (.string ⟨#[120]⟩) := (blk_cell X3.out 7).trans rfl
  have x8 : w3.cell? ⟨bx, 8, none⟩ = some (.bool true) := (blk_cell X3.out 8).trans rfl
  have x9 : w3.cell? ⟨bx, 9, none⟩ = some (.string ⟨#[121]⟩) := (blk_cell X3.out 9).trans rfl
  have x10 : w3.cell? ⟨bx, 10, none⟩ = some (.int .i64 4) := (blk_cell X3.out 10).trans rfl
  have x11 : w3.cell? ⟨bx, 11, none⟩ = some (.int .i64 6) := (blk_cell X3.out 11).trans rfl
  go_wp2_with fail
  clear x0 x1 x2 x3 x4 x5 x6 x7 x8 x9 x10 x11
  refine (valid_any v_b6p _).mono ?_
  rintro e w4 ⟨rfl, hb4⟩
  have hok := ok_b6p
  have T4 := hid (T3.out.below hb4)
  have hb4' := hid (hb3.out.trans (hb4.mono hb3.out.size))
  clear hb4 T3 X3 hb3
  go_wp2_with fail
  refine (list_any _ t _ _ _ _ _ T4.out (by simp)).mono ?_
  rintro e w5 ⟨v, d, rfl, hp, hs, ho, _, hb5⟩
  obtain rfl := perm_zero hp
  obtain ⟨a, cap, rfl⟩ := ownV_empty ho
  have T5 := hid (T4.out.below hb5)
  have hb5' := hid (hb4'.out.trans (hb5.mono hb4'.out.size))
  clear hb5 T4 hb4' hp hs ho
  go_wp2_with fail
  refine (total_any _ t _ _ _ _ _ T5.out).mono ?_
  rintro e w6 ⟨rfl, rfl⟩
  go_wp2_with fail
  go_ret
  exact ⟨rfl, hb5'.out⟩

def v_b7n : V := ⟨7, 5, 3, 15, 2, ⟨#[107]⟩, true, ⟨#[120]⟩, true, ⟨#[121]⟩, 4, 6⟩
theorem ok_b7n : validB v_b7n = true := by decide
set_option maxHeartbeats 4000000 in
set_option maxRecDepth 1000000 in
theorem b7n (w : World) : Calls Try.prog 5 #[.int .i64 7, .bool false] w fun e w' => e = .returned (.bool true) ∧ Below w.heap.size w w' := by
  go_enter Try.func5, Try.ntmps5
  go_wp2_with fail
  refine (anchor_any _).mono ?_
  rintro e w1 ⟨rfl, hb1⟩
  go_wp2_with fail
  refine (new_good 3 _ (by omega) (by omega)).mono ?_
  rintro e w2 ⟨t, rfl, hT, hb⟩
  have hb0 := hid (hb1.alloc hb1.size (.cells #[.int .i64 v_b7n.kind, .int .i64 v_b7n.time, .int .i64 v_b7n.txn, .int .i64 v_b7n.op, .int .i64 v_b7n.wit, .string v_b7n.key, .bool v_b7n.want, .string v_b7n.exp, .bool v_b7n.got, .string v_b7n.obs, .int .i64 v_b7n.frm, .int .i64 v_b7n.to] 30))
  have hx := (hb.block w1.heap.size (by simp)).trans (heap_alloc_new w1 _)
  have T1 := hid hT
  have hb2 := hid (hb0.out.trans (hb.mono hb0.out.size))
  have hB := hid hb.size
  have hW := hid hb0.out.size
  have hBx := hid (show w1.heap.size < (w1.alloc (.cells #[.int .i64 v_b7n.kind, .int .i64 v_b7n.time, .int .i64 v_b7n.txn, .int .i64 v_b7n.op, .int .i64 v_b7n.wit, .string v_b7n.key, .bool v_b7n.want, .string v_b7n.exp, .bool v_b7n.got, .string v_b7n.obs, .int .i64 v_b7n.frm, .int .i64 v_b7n.to] 30)).heap.size from by simp)
  clear hT hb hb0 hb1
  have x0 : w2.cell? ⟨w1.heap.size, 0, none⟩ = some (.int .i64 7) := (blk_cell hx 0).trans rfl
  have x1 : w2.cell? ⟨w1.heap.size, 1, none⟩ = some (.int .i64 5) := (blk_cell hx 1).trans rfl
  have x2 : w2.cell? ⟨w1.heap.size, 2, none⟩ = some (.int .i64 3) := (blk_cell hx 2).trans rfl
  have x3 : w2.cell? ⟨w1.heap.size, 3, none⟩ = some (.int .i64 15) := (blk_cell hx 3).trans rfl
  have x4 : w2.cell? ⟨w1.heap.size, 4, none⟩ = some (.int .i64 2) := (blk_cell hx 4).trans rfl
  have x5 : w2.cell? ⟨w1.heap.size, 5, none⟩ = some (.string ⟨#[107]⟩) := (blk_cell hx 5).trans rfl
  have x6 : w2.cell? ⟨w1.heap.size, 6, none⟩ = some (.bool true) := (blk_cell hx 6).trans rfl
  have x7 : w2.cell? ⟨w1.heap.size, 7, none⟩ = some (.string ⟨#[120]⟩) := (blk_cell hx 7).trans rfl
  have x8 : w2.cell? ⟨w1.heap.size, 8, none⟩ = some (.bool true) := (blk_cell hx 8).trans rfl
  have x9 : w2.cell? ⟨w1.heap.size, 9, none⟩ = some (.string ⟨#[121]⟩) := (blk_cell hx 9).trans rfl
  have x10 : w2.cell? ⟨w1.heap.size, 10, none⟩ = some (.int .i64 4) := (blk_cell hx 10).trans rfl
  have x11 : w2.cell? ⟨w1.heap.size, 11, none⟩ = some (.int .i64 6) := (blk_cell hx 11).trans rfl
  have X2 := hid hx
  clear hx
  generalize w1.heap.size = bx at *
  go_wp2_with fail
  clear x0 x1 x2 x3 x4 x5 x6 x7 x8 x9 x10 x11
  refine (put_any _ t 3 0 _ [] v_b7n _ T1.out (by omega) (by omega) (by simp) (by omega) (by omega) hB.out).mono ?_
  rintro e w3 (⟨hv, _⟩ | ⟨_, rfl, hv', hT, hb⟩)
  case inl => rw [ok_b7n] at hv; cases hv
  rw [putOne] at hT
  have T3 := hid hT
  have X3 := hid ((hb.block bx hBx.out).trans X2.out)
  have hb3 := hid (hb2.out.trans (hb.mono hW.out))
  clear hT
  clear hb T1 X2 hb2 hB hW hBx
  have x0 : w3.cell? ⟨bx, 0, none⟩ = some (.int .i64 7) := (blk_cell X3.out 0).trans rfl
  have x1 : w3.cell? ⟨bx, 1, none⟩ = some (.int .i64 5) := (blk_cell X3.out 1).trans rfl
  have x2 : w3.cell? ⟨bx, 2, none⟩ = some (.int .i64 3) := (blk_cell X3.out 2).trans rfl
  have x3 : w3.cell? ⟨bx, 3, none⟩ = some (.int .i64 15) := (blk_cell X3.out 3).trans rfl
  have x4 : w3.cell? ⟨bx, 4, none⟩ = some (.int .i64 2) := (blk_cell X3.out 4).trans rfl
  have x5 : w3.cell? ⟨bx, 5, none⟩ = some (.string ⟨#[107]⟩) := (blk_cell X3.out 5).trans rfl
  have x6 : w3.cell? ⟨bx, 6, none⟩ = some (.bool true) := (blk_cell X3.out 6).trans rfl
  have x7 : w3.cell? ⟨bx, 7, none⟩ = some (.string ⟨#[120]⟩) := (blk_cell X3.out 7).trans rfl
  have x8 : w3.cell? ⟨bx, 8, none⟩ = some (.bool true) := (blk_cell X3.out 8).trans rfl
  have x9 : w3.cell? ⟨bx, 9, none⟩ = some (.string ⟨#[121]⟩) := (blk_cell X3.out 9).trans rfl
  have x10 : w3.cell? ⟨bx, 10, none⟩ = some (.int .i64 4) := (blk_cell X3.out 10).trans rfl
  have x11 : w3.cell? ⟨bx, 11, none⟩ = some (.int .i64 6) := (blk_cell X3.out 11).trans rfl
  go_wp2_with fail
  clear x0 x1 x2 x3 x4 x5 x6 x7 x8 x9 x10 x11
  refine (valid_any v_b7n _).mono ?_
  rintro e w4 ⟨rfl, hb4⟩
  have hok := ok_b7n
  have T4 := hid (T3.out.below hb4)
  have hb4' := hid (hb3.out.trans (hb4.mono hb3.out.size))
  clear hb4 T3 X3 hb3
  go_wp2_with fail
  refine (list_any _ t _ _ _ _ _ T4.out (by simp)).mono ?_
  rintro e w5 ⟨v, d, rfl, hp, hs, ho, _, hb5⟩
  obtain rfl := perm_one hp
  obtain ⟨a, cap, rfl, _⟩ := ownV_open ho (by simp)
  simp only [List.map_cons, List.map_nil, List.length_cons, List.length_nil, Nat.zero_add]
  have T5 := hid (T4.out.below hb5)
  have hb5' := hid (hb4'.out.trans (hb5.mono hb4'.out.size))
  clear hb5 T4 hb4' hp hs ho
  go_wp2_with fail
  refine (total_any _ t _ _ _ _ _ T5.out).mono ?_
  rintro e w6 ⟨rfl, rfl⟩
  go_wp2_with fail
  go_ret
  exact ⟨rfl, hb5'.out⟩

def v_b7p : V := ⟨7, 5, 3, 16, 2, ⟨#[107]⟩, true, ⟨#[120]⟩, true, ⟨#[121]⟩, 4, 6⟩
theorem ok_b7p : validB v_b7p = false := by decide
set_option maxHeartbeats 4000000 in
set_option maxRecDepth 1000000 in
theorem b7p (w : World) : Calls Try.prog 5 #[.int .i64 7, .bool true] w fun e w' => e = .returned (.bool true) ∧ Below w.heap.size w w' := by
  go_enter Try.func5, Try.ntmps5
  go_wp2_with fail
  refine (anchor_any _).mono ?_
  rintro e w1 ⟨rfl, hb1⟩
  go_wp2_with fail
  refine (new_good 3 _ (by omega) (by omega)).mono ?_
  rintro e w2 ⟨t, rfl, hT, hb⟩
  have hb0 := hid (hb1.alloc hb1.size (.cells #[.int .i64 v_b7p.kind, .int .i64 v_b7p.time, .int .i64 v_b7p.txn, .int .i64 v_b7p.op, .int .i64 v_b7p.wit, .string v_b7p.key, .bool v_b7p.want, .string v_b7p.exp, .bool v_b7p.got, .string v_b7p.obs, .int .i64 v_b7p.frm, .int .i64 v_b7p.to] 30))
  have hx := (hb.block w1.heap.size (by simp)).trans (heap_alloc_new w1 _)
  have T1 := hid hT
  have hb2 := hid (hb0.out.trans (hb.mono hb0.out.size))
  have hB := hid hb.size
  have hW := hid hb0.out.size
  have hBx := hid (show w1.heap.size < (w1.alloc (.cells #[.int .i64 v_b7p.kind, .int .i64 v_b7p.time, .int .i64 v_b7p.txn, .int .i64 v_b7p.op, .int .i64 v_b7p.wit, .string v_b7p.key, .bool v_b7p.want, .string v_b7p.exp, .bool v_b7p.got, .string v_b7p.obs, .int .i64 v_b7p.frm, .int .i64 v_b7p.to] 30)).heap.size from by simp)
  clear hT hb hb0 hb1
  have x0 : w2.cell? ⟨w1.heap.size, 0, none⟩ = some (.int .i64 7) := (blk_cell hx 0).trans rfl
  have x1 : w2.cell? ⟨w1.heap.size, 1, none⟩ = some (.int .i64 5) := (blk_cell hx 1).trans rfl
  have x2 : w2.cell? ⟨w1.heap.size, 2, none⟩ = some (.int .i64 3) := (blk_cell hx 2).trans rfl
  have x3 : w2.cell? ⟨w1.heap.size, 3, none⟩ = some (.int .i64 16) := (blk_cell hx 3).trans rfl
  have x4 : w2.cell? ⟨w1.heap.size, 4, none⟩ = some (.int .i64 2) := (blk_cell hx 4).trans rfl
  have x5 : w2.cell? ⟨w1.heap.size, 5, none⟩ = some (.string ⟨#[107]⟩) := (blk_cell hx 5).trans rfl
  have x6 : w2.cell? ⟨w1.heap.size, 6, none⟩ = some (.bool true) := (blk_cell hx 6).trans rfl
  have x7 : w2.cell? ⟨w1.heap.size, 7, none⟩ = some (.string ⟨#[120]⟩) := (blk_cell hx 7).trans rfl
  have x8 : w2.cell? ⟨w1.heap.size, 8, none⟩ = some (.bool true) := (blk_cell hx 8).trans rfl
  have x9 : w2.cell? ⟨w1.heap.size, 9, none⟩ = some (.string ⟨#[121]⟩) := (blk_cell hx 9).trans rfl
  have x10 : w2.cell? ⟨w1.heap.size, 10, none⟩ = some (.int .i64 4) := (blk_cell hx 10).trans rfl
  have x11 : w2.cell? ⟨w1.heap.size, 11, none⟩ = some (.int .i64 6) := (blk_cell hx 11).trans rfl
  have X2 := hid hx
  clear hx
  generalize w1.heap.size = bx at *
  go_wp2_with fail
  clear x0 x1 x2 x3 x4 x5 x6 x7 x8 x9 x10 x11
  refine (put_any _ t 3 0 _ [] v_b7p _ T1.out (by omega) (by omega) (by simp) (by omega) (by omega) hB.out).mono ?_
  rintro e w3 (⟨_, rfl, hb⟩ | ⟨hv, _⟩)
  case inr => rw [ok_b7p] at hv; cases hv
  have T3 := hid (T1.out.below hb)
  have X3 := hid ((hb.block bx (blk_lt X2.out)).trans X2.out)
  have hb3 := hid (hb2.out.trans (hb.mono hb2.out.size))
  clear hb T1 X2 hb2 hB hW hBx
  have x0 : w3.cell? ⟨bx, 0, none⟩ = some (.int .i64 7) := (blk_cell X3.out 0).trans rfl
  have x1 : w3.cell? ⟨bx, 1, none⟩ = some (.int .i64 5) := (blk_cell X3.out 1).trans rfl
  have x2 : w3.cell? ⟨bx, 2, none⟩ = some (.int .i64 3) := (blk_cell X3.out 2).trans rfl
  have x3 : w3.cell? ⟨bx, 3, none⟩ = some (.int .i64 16) := (blk_cell X3.out 3).trans rfl
  have x4 : w3.cell? ⟨bx, 4, none⟩ = some (.int .i64 2) := (blk_cell X3.out 4).trans rfl
  have x5 : w3.cell? ⟨bx, 5, none⟩ = some (.string ⟨#[107]⟩) := (blk_cell X3.out 5).trans rfl
  have x6 : w3.cell? ⟨bx, 6, none⟩ = some (.bool true) := (blk_cell X3.out 6).trans rfl
  have x7 : w3.cell? ⟨bx, 7, none⟩ = some (.string ⟨#[120]⟩) := (blk_cell X3.out 7).trans rfl
  have x8 : w3.cell? ⟨bx, 8, none⟩ = some (.bool true) := (blk_cell X3.out 8).trans rfl
  have x9 : w3.cell? ⟨bx, 9, none⟩ = some (.string ⟨#[121]⟩) := (blk_cell X3.out 9).trans rfl
  have x10 : w3.cell? ⟨bx, 10, none⟩ = some (.int .i64 4) := (blk_cell X3.out 10).trans rfl
  have x11 : w3.cell? ⟨bx, 11, none⟩ = some (.int .i64 6) := (blk_cell X3.out 11).trans rfl
  go_wp2_with fail
  clear x0 x1 x2 x3 x4 x5 x6 x7 x8 x9 x10 x11
  refine (valid_any v_b7p _).mono ?_
  rintro e w4 ⟨rfl, hb4⟩
  have hok := ok_b7p
  have T4 := hid (T3.out.below hb4)
  have hb4' := hid (hb3.out.trans (hb4.mono hb3.out.size))
  clear hb4 T3 X3 hb3
  go_wp2_with fail
  refine (list_any _ t _ _ _ _ _ T4.out (by simp)).mono ?_
  rintro e w5 ⟨v, d, rfl, hp, hs, ho, _, hb5⟩
  obtain rfl := perm_zero hp
  obtain ⟨a, cap, rfl⟩ := ownV_empty ho
  have T5 := hid (T4.out.below hb5)
  have hb5' := hid (hb4'.out.trans (hb5.mono hb4'.out.size))
  clear hb5 T4 hb4' hp hs ho
  go_wp2_with fail
  refine (total_any _ t _ _ _ _ _ T5.out).mono ?_
  rintro e w6 ⟨rfl, rfl⟩
  go_wp2_with fail
  go_ret
  exact ⟨rfl, hb5'.out⟩

def v_b8n : V := ⟨7, 5, 3, 1, 2, ⟨#[49, 50, 51, 52, 53, 54, 55, 56]⟩, true, ⟨#[120]⟩, true, ⟨#[121]⟩, 4, 6⟩
theorem ok_b8n : validB v_b8n = true := by decide
set_option maxHeartbeats 4000000 in
set_option maxRecDepth 1000000 in
theorem b8n (w : World) : Calls Try.prog 5 #[.int .i64 8, .bool false] w fun e w' => e = .returned (.bool true) ∧ Below w.heap.size w w' := by
  go_enter Try.func5, Try.ntmps5
  go_wp2_with fail
  refine (anchor_any _).mono ?_
  rintro e w1 ⟨rfl, hb1⟩
  go_wp2_with fail
  refine (new_good 3 _ (by omega) (by omega)).mono ?_
  rintro e w2 ⟨t, rfl, hT, hb⟩
  have hb0 := hid (hb1.alloc hb1.size (.cells #[.int .i64 v_b8n.kind, .int .i64 v_b8n.time, .int .i64 v_b8n.txn, .int .i64 v_b8n.op, .int .i64 v_b8n.wit, .string v_b8n.key, .bool v_b8n.want, .string v_b8n.exp, .bool v_b8n.got, .string v_b8n.obs, .int .i64 v_b8n.frm, .int .i64 v_b8n.to] 30))
  have hx := (hb.block w1.heap.size (by simp)).trans (heap_alloc_new w1 _)
  have T1 := hid hT
  have hb2 := hid (hb0.out.trans (hb.mono hb0.out.size))
  have hB := hid hb.size
  have hW := hid hb0.out.size
  have hBx := hid (show w1.heap.size < (w1.alloc (.cells #[.int .i64 v_b8n.kind, .int .i64 v_b8n.time, .int .i64 v_b8n.txn, .int .i64 v_b8n.op, .int .i64 v_b8n.wit, .string v_b8n.key, .bool v_b8n.want, .string v_b8n.exp, .bool v_b8n.got, .string v_b8n.obs, .int .i64 v_b8n.frm, .int .i64 v_b8n.to] 30)).heap.size from by simp)
  clear hT hb hb0 hb1
  have x0 : w2.cell? ⟨w1.heap.size, 0, none⟩ = some (.int .i64 7) := (blk_cell hx 0).trans rfl
  have x1 : w2.cell? ⟨w1.heap.size, 1, none⟩ = some (.int .i64 5) := (blk_cell hx 1).trans rfl
  have x2 : w2.cell? ⟨w1.heap.size, 2, none⟩ = some (.int .i64 3) := (blk_cell hx 2).trans rfl
  have x3 : w2.cell? ⟨w1.heap.size, 3, none⟩ = some (.int .i64 1) := (blk_cell hx 3).trans rfl
  have x4 : w2.cell? ⟨w1.heap.size, 4, none⟩ = some (.int .i64 2) := (blk_cell hx 4).trans rfl
  have x5 : w2.cell? ⟨w1.heap.size, 5, none⟩ = some (.string ⟨#[49, 50, 51, 52, 53, 54, 55, 56]⟩) := (blk_cell hx 5).trans rfl
  have x6 : w2.cell? ⟨w1.heap.size, 6, none⟩ = some (.bool true) := (blk_cell hx 6).trans rfl
  have x7 : w2.cell? ⟨w1.heap.size, 7, none⟩ = some (.string ⟨#[120]⟩) := (blk_cell hx 7).trans rfl
  have x8 : w2.cell? ⟨w1.heap.size, 8, none⟩ = some (.bool true) := (blk_cell hx 8).trans rfl
  have x9 : w2.cell? ⟨w1.heap.size, 9, none⟩ = some (.string ⟨#[121]⟩) := (blk_cell hx 9).trans rfl
  have x10 : w2.cell? ⟨w1.heap.size, 10, none⟩ = some (.int .i64 4) := (blk_cell hx 10).trans rfl
  have x11 : w2.cell? ⟨w1.heap.size, 11, none⟩ = some (.int .i64 6) := (blk_cell hx 11).trans rfl
  have X2 := hid hx
  clear hx
  generalize w1.heap.size = bx at *
  go_wp2_with fail
  clear x0 x1 x2 x3 x4 x5 x6 x7 x8 x9 x10 x11
  refine (put_any _ t 3 0 _ [] v_b8n _ T1.out (by omega) (by omega) (by simp) (by omega) (by omega) hB.out).mono ?_
  rintro e w3 (⟨hv, _⟩ | ⟨_, rfl, hv', hT, hb⟩)
  case inl => rw [ok_b8n] at hv; cases hv
  rw [putOne] at hT
  have T3 := hid hT
  have X3 := hid ((hb.block bx hBx.out).trans X2.out)
  have hb3 := hid (hb2.out.trans (hb.mono hW.out))
  clear hT
  clear hb T1 X2 hb2 hB hW hBx
  have x0 : w3.cell? ⟨bx, 0, none⟩ = some (.int .i64 7) := (blk_cell X3.out 0).trans rfl
  have x1 : w3.cell? ⟨bx, 1, none⟩ = some (.int .i64 5) := (blk_cell X3.out 1).trans rfl
  have x2 : w3.cell? ⟨bx, 2, none⟩ = some (.int .i64 3) := (blk_cell X3.out 2).trans rfl
  have x3 : w3.cell? ⟨bx, 3, none⟩ = some (.int .i64 1) := (blk_cell X3.out 3).trans rfl
  have x4 : w3.cell? ⟨bx, 4, none⟩ = some (.int .i64 2) := (blk_cell X3.out 4).trans rfl
  have x5 : w3.cell? ⟨bx, 5, none⟩ = some (.string ⟨#[49, 50, 51, 52, 53, 54, 55, 56]⟩) := (blk_cell X3.out 5).trans rfl
  have x6 : w3.cell? ⟨bx, 6, none⟩ = some (.bool true) := (blk_cell X3.out 6).trans rfl
  have x7 : w3.cell? ⟨bx, 7, none⟩ = some (.string ⟨#[120]⟩) := (blk_cell X3.out 7).trans rfl
  have x8 : w3.cell? ⟨bx, 8, none⟩ = some (.bool true) := (blk_cell X3.out 8).trans rfl
  have x9 : w3.cell? ⟨bx, 9, none⟩ = some (.string ⟨#[121]⟩) := (blk_cell X3.out 9).trans rfl
  have x10 : w3.cell? ⟨bx, 10, none⟩ = some (.int .i64 4) := (blk_cell X3.out 10).trans rfl
  have x11 : w3.cell? ⟨bx, 11, none⟩ = some (.int .i64 6) := (blk_cell X3.out 11).trans rfl
  go_wp2_with fail
  clear x0 x1 x2 x3 x4 x5 x6 x7 x8 x9 x10 x11
  refine (valid_any v_b8n _).mono ?_
  rintro e w4 ⟨rfl, hb4⟩
  have hok := ok_b8n
  have T4 := hid (T3.out.below hb4)
  have hb4' := hid (hb3.out.trans (hb4.mono hb3.out.size))
  clear hb4 T3 X3 hb3
  go_wp2_with fail
  refine (list_any _ t _ _ _ _ _ T4.out (by simp)).mono ?_
  rintro e w5 ⟨v, d, rfl, hp, hs, ho, _, hb5⟩
  obtain rfl := perm_one hp
  obtain ⟨a, cap, rfl, _⟩ := ownV_open ho (by simp)
  simp only [List.map_cons, List.map_nil, List.length_cons, List.length_nil, Nat.zero_add]
  have T5 := hid (T4.out.below hb5)
  have hb5' := hid (hb4'.out.trans (hb5.mono hb4'.out.size))
  clear hb5 T4 hb4' hp hs ho
  go_wp2_with fail
  refine (total_any _ t _ _ _ _ _ T5.out).mono ?_
  rintro e w6 ⟨rfl, rfl⟩
  go_wp2_with fail
  go_ret
  exact ⟨rfl, hb5'.out⟩

def v_b8p : V := ⟨7, 5, 3, 1, 2, ⟨#[49, 50, 51, 52, 53, 54, 55, 56, 57]⟩, true, ⟨#[120]⟩, true, ⟨#[121]⟩, 4, 6⟩
theorem ok_b8p : validB v_b8p = false := by decide
set_option maxHeartbeats 4000000 in
set_option maxRecDepth 1000000 in
theorem b8p (w : World) : Calls Try.prog 5 #[.int .i64 8, .bool true] w fun e w' => e = .returned (.bool true) ∧ Below w.heap.size w w' := by
  go_enter Try.func5, Try.ntmps5
  go_wp2_with fail
  refine (anchor_any _).mono ?_
  rintro e w1 ⟨rfl, hb1⟩
  go_wp2_with fail
  refine (new_good 3 _ (by omega) (by omega)).mono ?_
  rintro e w2 ⟨t, rfl, hT, hb⟩
  have hb0 := hid (hb1.alloc hb1.size (.cells #[.int .i64 v_b8p.kind, .int .i64 v_b8p.time, .int .i64 v_b8p.txn, .int .i64 v_b8p.op, .int .i64 v_b8p.wit, .string v_b8p.key, .bool v_b8p.want, .string v_b8p.exp, .bool v_b8p.got, .string v_b8p.obs, .int .i64 v_b8p.frm, .int .i64 v_b8p.to] 30))
  have hx := (hb.block w1.heap.size (by simp)).trans (heap_alloc_new w1 _)
  have T1 := hid hT
  have hb2 := hid (hb0.out.trans (hb.mono hb0.out.size))
  have hB := hid hb.size
  have hW := hid hb0.out.size
  have hBx := hid (show w1.heap.size < (w1.alloc (.cells #[.int .i64 v_b8p.kind, .int .i64 v_b8p.time, .int .i64 v_b8p.txn, .int .i64 v_b8p.op, .int .i64 v_b8p.wit, .string v_b8p.key, .bool v_b8p.want, .string v_b8p.exp, .bool v_b8p.got, .string v_b8p.obs, .int .i64 v_b8p.frm, .int .i64 v_b8p.to] 30)).heap.size from by simp)
  clear hT hb hb0 hb1
  have x0 : w2.cell? ⟨w1.heap.size, 0, none⟩ = some (.int .i64 7) := (blk_cell hx 0).trans rfl
  have x1 : w2.cell? ⟨w1.heap.size, 1, none⟩ = some (.int .i64 5) := (blk_cell hx 1).trans rfl
  have x2 : w2.cell? ⟨w1.heap.size, 2, none⟩ = some (.int .i64 3) := (blk_cell hx 2).trans rfl
  have x3 : w2.cell? ⟨w1.heap.size, 3, none⟩ = some (.int .i64 1) := (blk_cell hx 3).trans rfl
  have x4 : w2.cell? ⟨w1.heap.size, 4, none⟩ = some (.int .i64 2) := (blk_cell hx 4).trans rfl
  have x5 : w2.cell? ⟨w1.heap.size, 5, none⟩ = some (.string ⟨#[49, 50, 51, 52, 53, 54, 55, 56, 57]⟩) := (blk_cell hx 5).trans rfl
  have x6 : w2.cell? ⟨w1.heap.size, 6, none⟩ = some (.bool true) := (blk_cell hx 6).trans rfl
  have x7 : w2.cell? ⟨w1.heap.size, 7, none⟩ = some (.string ⟨#[120]⟩) := (blk_cell hx 7).trans rfl
  have x8 : w2.cell? ⟨w1.heap.size, 8, none⟩ = some (.bool true) := (blk_cell hx 8).trans rfl
  have x9 : w2.cell? ⟨w1.heap.size, 9, none⟩ = some (.string ⟨#[121]⟩) := (blk_cell hx 9).trans rfl
  have x10 : w2.cell? ⟨w1.heap.size, 10, none⟩ = some (.int .i64 4) := (blk_cell hx 10).trans rfl
  have x11 : w2.cell? ⟨w1.heap.size, 11, none⟩ = some (.int .i64 6) := (blk_cell hx 11).trans rfl
  have X2 := hid hx
  clear hx
  generalize w1.heap.size = bx at *
  go_wp2_with fail
  clear x0 x1 x2 x3 x4 x5 x6 x7 x8 x9 x10 x11
  refine (put_any _ t 3 0 _ [] v_b8p _ T1.out (by omega) (by omega) (by simp) (by omega) (by omega) hB.out).mono ?_
  rintro e w3 (⟨_, rfl, hb⟩ | ⟨hv, _⟩)
  case inr => rw [ok_b8p] at hv; cases hv
  have T3 := hid (T1.out.below hb)
  have X3 := hid ((hb.block bx (blk_lt X2.out)).trans X2.out)
  have hb3 := hid (hb2.out.trans (hb.mono hb2.out.size))
  clear hb T1 X2 hb2 hB hW hBx
  have x0 : w3.cell? ⟨bx, 0, none⟩ = some (.int .i64 7) := (blk_cell X3.out 0).trans rfl
  have x1 : w3.cell? ⟨bx, 1, none⟩ = some (.int .i64 5) := (blk_cell X3.out 1).trans rfl
  have x2 : w3.cell? ⟨bx, 2, none⟩ = some (.int .i64 3) := (blk_cell X3.out 2).trans rfl
  have x3 : w3.cell? ⟨bx, 3, none⟩ = some (.int .i64 1) := (blk_cell X3.out 3).trans rfl
  have x4 : w3.cell? ⟨bx, 4, none⟩ = some (.int .i64 2) := (blk_cell X3.out 4).trans rfl
  have x5 : w3.cell? ⟨bx, 5, none⟩ = some (.string ⟨#[49, 50, 51, 52, 53, 54, 55, 56, 57]⟩) := (blk_cell X3.out 5).trans rfl
  have x6 : w3.cell? ⟨bx, 6, none⟩ = some (.bool true) := (blk_cell X3.out 6).trans rfl
  have x7 : w3.cell? ⟨bx, 7, none⟩ = some (.string ⟨#[120]⟩) := (blk_cell X3.out 7).trans rfl
  have x8 : w3.cell? ⟨bx, 8, none⟩ = some (.bool true) := (blk_cell X3.out 8).trans rfl
  have x9 : w3.cell? ⟨bx, 9, none⟩ = some (.string ⟨#[121]⟩) := (blk_cell X3.out 9).trans rfl
  have x10 : w3.cell? ⟨bx, 10, none⟩ = some (.int .i64 4) := (blk_cell X3.out 10).trans rfl
  have x11 : w3.cell? ⟨bx, 11, none⟩ = some (.int .i64 6) := (blk_cell X3.out 11).trans rfl
  go_wp2_with fail
  clear x0 x1 x2 x3 x4 x5 x6 x7 x8 x9 x10 x11
  refine (valid_any v_b8p _).mono ?_
  rintro e w4 ⟨rfl, hb4⟩
  have hok := ok_b8p
  have T4 := hid (T3.out.below hb4)
  have hb4' := hid (hb3.out.trans (hb4.mono hb3.out.size))
  clear hb4 T3 X3 hb3
  go_wp2_with fail
  refine (list_any _ t _ _ _ _ _ T4.out (by simp)).mono ?_
  rintro e w5 ⟨v, d, rfl, hp, hs, ho, _, hb5⟩
  obtain rfl := perm_zero hp
  obtain ⟨a, cap, rfl⟩ := ownV_empty ho
  have T5 := hid (T4.out.below hb5)
  have hb5' := hid (hb4'.out.trans (hb5.mono hb4'.out.size))
  clear hb5 T4 hb4' hp hs ho
  go_wp2_with fail
  refine (total_any _ t _ _ _ _ _ T5.out).mono ?_
  rintro e w6 ⟨rfl, rfl⟩
  go_wp2_with fail
  go_ret
  exact ⟨rfl, hb5'.out⟩

end Go.Proofs.Ytgimpkbknaopcaa
