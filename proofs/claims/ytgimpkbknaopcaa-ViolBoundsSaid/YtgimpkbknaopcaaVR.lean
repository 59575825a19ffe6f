/- The walk of ViolBounds. No statement is proved here. -/
import Derived.Test.YtgimpkbknaopcaaVOb
set_option linter.unusedVariables false
set_option linter.unusedSimpArgs false
namespace Go.Proofs.Ytgimpkbknaopcaa
open Go.RowKit Go.Shelf Go.Lib
open Go.Sort hiding Below

def v_b9n : V := ⟨7, 5, 3, 1, 2, ⟨#[107]⟩, true, ⟨#[49, 50, 51, 52, 53, 54, 55, 56, 57, 48, 49, 50, 51, 52, 53, 54]⟩, true, ⟨#[121]⟩, 4, 6⟩
theorem ok_b9n : validB v_b9n = true := by decide
set_option maxHeartbeats 4000000 in
set_option maxRecDepth 1000000 in
theorem b9n (w : World) : Calls Try.prog 5 #[.int .i64 9, .bool false] w fun e w' => e = .returned (.bool true) ∧ Below w.heap.size w w' := by
  go_enter Try.func5, Try.ntmps5
  go_wp2_with fail
  refine (anchor_any _).mono ?_
  rintro e w1 ⟨rfl, hb1⟩
  go_wp2_with fail
  refine (new_good 3 _ (by omega) (by omega)).mono ?_
  rintro e w2 ⟨t, rfl, hT, hb⟩
  have hb0 := hid (hb1.alloc hb1.size (.cells #[.int .i64 v_b9n.kind, .int .i64 v_b9n.time, .int .i64 v_b9n.txn, .int .i64 v_b9n.op, .int .i64 v_b9n.wit, .string v_b9n.key, .bool v_b9n.want, .string v_b9n.exp, .bool v_b9n.got, .string v_b9n.obs, .int .i64 v_b9n.frm, .int .i64 v_b9n.to] 30))
  have hx := (hb.block w1.heap.size (by simp)).trans (heap_alloc_new w1 _)
  have T1 := hid hT
  have hb2 := hid (hb0.out.trans (hb.mono hb0.out.size))
  have hB := hid hb.size
  have hW := hid hb0.out.size
  have hBx := hid (show w1.heap.size < (w1.alloc (.cells #[.int .i64 v_b9n.kind, .int .i64 v_b9n.time, .int .i64 v_b9n.txn, .int .i64 v_b9n.op, .int .i64 v_b9n.wit, .string v_b9n.key, .bool v_b9n.want, .string v_b9n.exp, .bool v_b9n.got, .string v_b9n.obs, .int .i64 v_b9n.frm, .int .i64 v_b9n.to] 30)).heap.size from by simp)
  clear hT hb hb0 hb1
  have x0 : w2.cell? ⟨w1.heap.size, 0, none⟩ = some (.int .i64 7) := (blk_cell hx 0).trans rfl
  have x1 : w2.cell? ⟨w1.heap.size, 1, none⟩ = some (.int .i64 5) := (blk_cell hx 1).trans rfl
  have x2 : w2.cell? ⟨w1.heap.size, 2, none⟩ = some (.int .i64 3) := (blk_cell hx 2).trans rfl
  have x3 : w2.cell? ⟨w1.heap.size, 3, none⟩ = some (.int .i64 1) := (blk_cell hx 3).trans rfl
  have x4 : w2.cell? ⟨w1.heap.size, 4, none⟩ = some (.int .i64 2) := (blk_cell hx 4).trans rfl
  have x5 : w2.cell? ⟨w1.heap.size, 5, none⟩ = some (.string ⟨#[107]⟩) := (blk_cell hx 5).trans rfl
  have x6 : w2.cell? ⟨w1.heap.size, 6, none⟩ = some (.bool true) := (blk_cell hx 6).trans rfl
  have x7 : w2.cell? ⟨w1.heap.size, 7, none⟩ = some (.string ⟨#[49, 50, 51, 52, 53, 54, 55, 56, 57, 48, 49, 50, 51, 52, 53, 54]⟩) := (blk_cell hx 7).trans rfl
  have x8 : w2.cell? ⟨w1.heap.size, 8, none⟩ = some (.bool true) := (blk_cell hx 8).trans rfl
  have x9 : w2.cell? ⟨w1.heap.size, 9, none⟩ = some (.string ⟨#[121]⟩) := (blk_cell hx 9).trans rfl
  have x10 : w2.cell? ⟨w1.heap.size, 10, none⟩ = some (.int .i64 4) := (blk_cell hx 10).trans rfl
  have x11 : w2.cell? ⟨w1.heap.size, 11, none⟩ = some (.int .i64 6) := (blk_cell hx 11).trans rfl
  have X2 := hid hx
  clear hx
  generalize w1.heap.size = bx at *
  go_wp2_with fail
  clear x0 x1 x2 x3 x4 x5 x6 x7 x8 x9 x10 x11
  refine (put_any _ t 3 0 _ [] v_b9n _ T1.out (by omega) (by omega) (by simp) (by omega) (by omega) hB.out).mono ?_
  rintro e w3 (⟨hv, _⟩ | ⟨_, rfl, hv', hT, hb⟩)
  case inl => rw [ok_b9n] at hv; cases hv
  rw [putOne] at hT
  have T3 := hid hT
  have X3 := hid ((hb.block bx hBx.out).trans X2.out)
  have hb3 := hid (hb2.out.trans (hb.mono hW.out))
  clear hT
  clear hb T1 X2 hb2 hB hW hBx
  have x0 : w3.cell? ⟨bx, 0, none⟩ = some (.int .i64 7) := (blk_cell X3.out 0).trans rfl
  have x1 : w3.cell? ⟨bx, 1, none⟩ = some (.int .i64 5) := (blk_cell X3.out 1).trans rfl
  have x2 : w3.cell? ⟨bx, 2, none⟩ = some (.int .i64 3) := (blk_cell X3.out 2).trans rfl
  have x3 : w3.cell? ⟨bx, 3, none⟩ = some (.int .i64 1) := (blk_cell X3.out 3).trans rfl
  have x4 : w3.cell? ⟨bx, 4, none⟩ = some (.int .i64 2) := (blk_cell X3.out 4).trans rfl
  have x5 : w3.cell? ⟨bx, 5, none⟩ = some (.string ⟨#[107]⟩) := (blk_cell X3.out 5).trans rfl
  have x6 : w3.cell? ⟨bx, 6, none⟩ = some (.bool true) := (blk_cell X3.out 6).trans rfl
  have x7 : w3.cell? ⟨bx, 7, none⟩ = some (.string ⟨#[49, 50, 51, 52, 53, 54, 55, 56, 57, 48, 49, 50, 51, 52, 53, 54]⟩) := (blk_cell X3.out 7).trans rfl
  have x8 : w3.cell? ⟨bx, 8, none⟩ = some (.bool true) := (blk_cell X3.out 8).trans rfl
  have x9 : w3.cell? ⟨bx, 9, none⟩ = some (.string ⟨#[121]⟩) := (blk_cell X3.out 9).trans rfl
  have x10 : w3.cell? ⟨bx, 10, none⟩ = some (.int .i64 4) := (blk_cell X3.out 10).trans rfl
  have x11 : w3.cell? ⟨bx, 11, none⟩ = some (.int .i64 6) := (blk_cell X3.out 11).trans rfl
  go_wp2_with fail
  clear x0 x1 x2 x3 x4 x5 x6 x7 x8 x9 x10 x11
  refine (valid_any v_b9n _).mono ?_
  rintro e w4 ⟨rfl, hb4⟩
  have hok := ok_b9n
  have T4 := hid (T3.out.below hb4)
  have hb4' := hid (hb3.out.trans (hb4.mono hb3.out.size))
  clear hb4 T3 X3 hb3
  go_wp2_with fail
  refine (list_any _ t _ _ _ _ _ T4.out (by simp)).mono ?_
  rintro e w5 ⟨v, d, rfl, hp, hs, ho, _, hb5⟩
  obtain rfl := perm_one hp
  obtain ⟨a, cap, rfl, _⟩ := ownV_open ho (by simp)
  simp only [List.map_cons, List.map_nil, List.length_cons, List.length_nil, Nat.zero_add]
  have T5 := hid (T4.out.below hb5)
  have hb5' := hid (hb4'.out.trans (hb5.mono hb4'.out.size))
  clear hb5 T4 hb4' hp hs ho
  go_wp2_with fail
  refine (total_any _ t _ _ _ _ _ T5.out).mono ?_
  rintro e w6 ⟨rfl, rfl⟩
  go_wp2_with fail
  go_ret
  exact ⟨rfl, hb5'.out⟩

def v_b9p : V := ⟨7, 5, 3, 1, 2, ⟨#[107]⟩, true, ⟨#[49, 50, 51, 52, 53, 54, 55, 56, 57, 48, 49, 50, 51, 52, 53, 54, 55]⟩, true, ⟨#[121]⟩, 4, 6⟩
theorem ok_b9p : validB v_b9p = false := by decide
set_option maxHeartbeats 4000000 in
set_option maxRecDepth 1000000 in
theorem b9p (w : World) : Calls Try.prog 5 #[.int .i64 9, .bool true] w fun e w' => e = .returned (.bool true) ∧ Below w.heap.size w w' := by
  go_enter Try.func5, Try.ntmps5
  go_wp2_with fail
  refine (anchor_any _).mono ?_
  rintro e w1 ⟨rfl, hb1⟩
  go_wp2_with fail
  refine (new_good 3 _ (by omega) (by omega)).mono ?_
  rintro e w2 ⟨t, rfl, hT, hb⟩
  have hb0 := hid (hb1.alloc hb1.size (.cells #[.int .i64 v_b9p.kind, .int .i64 v_b9p.time, .int .i64 v_b9p.txn, .int .i64 v_b9p.op, .int .i64 v_b9p.wit, .string v_b9p.key, .bool v_b9p.want, .string v_b9p.exp, .bool v_b9p.got, .string v_b9p.obs, .int .i64 v_b9p.frm, .int .i64 v_b9p.to] 30))
  have hx := (hb.block w1.heap.size (by simp)).trans (heap_alloc_new w1 _)
  have T1 := hid hT
  have hb2 := hid (hb0.out.trans (hb.mono hb0.out.size))
  have hB := hid hb.size
  have hW := hid hb0.out.size
  have hBx := hid (show w1.heap.size < (w1.alloc (.cells #[.int .i64 v_b9p.kind, .int .i64 v_b9p.time, .int .i64 v_b9p.txn, .int .i64 v_b9p.op, .int .i64 v_b9p.wit, .string v_b9p.key, .bool v_b9p.want, .string v_b9p.exp, .bool v_b9p.got, .string v_b9p.obs, .int .i64 v_b9p.frm, .int .i64 v_b9p.to] 30)).heap.size from by simp)
  clear hT hb hb0 hb1
  have x0 : w2.cell? ⟨w1.heap.size, 0, none⟩ = some (.int .i64 7) := (blk_cell hx 0).trans rfl
  have x1 : w2.cell? ⟨w1.heap.size, 1, none⟩ = some (.int .i64 5) := (blk_cell hx 1).trans rfl
  have x2 : w2.cell? ⟨w1.heap.size, 2, none⟩ = some (.int .i64 3) := (blk_cell hx 2).trans rfl
  have x3 : w2.cell? ⟨w1.heap.size, 3, none⟩ = some (.int .i64 1) := (blk_cell hx 3).trans rfl
  have x4 : w2.cell? ⟨w1.heap.size, 4, none⟩ = some (.int .i64 2) := (blk_cell hx 4).trans rfl
  have x5 : w2.cell? ⟨w1.heap.size, 5, none⟩ = some (.string ⟨#[107]⟩) := (blk_cell hx 5).trans rfl
  have x6 : w2.cell? ⟨w1.heap.size, 6, none⟩ = some (.bool true) := (blk_cell hx 6).trans rfl
  have x7 : w2.cell? ⟨w1.heap.size, 7, none⟩ = some (.string ⟨#[49, 50, 51, 52, 53, 54, 55, 56, 57, 48, 49, 50, 51, 52, 53, 54, 55]⟩) := (blk_cell hx 7).trans rfl
  have x8 : w2.cell? ⟨w1.heap.size, 8, none⟩ = some (.bool true) := (blk_cell hx 8).trans rfl
  have x9 : w2.cell? ⟨w1.heap.size, 9, none⟩ = some (.string ⟨#[121]⟩) := (blk_cell hx 9).trans rfl
  have x10 : w2.cell? ⟨w1.heap.size, 10, none⟩ = some (.int .i64 4) := (blk_cell hx 10).trans rfl
  have x11 : w2.cell? ⟨w1.heap.size, 11, none⟩ = some (.int .i64 6) := (blk_cell hx 11).trans rfl
  have X2 := hid hx
  clear hx
  generalize w1.heap.size = bx at *
  go_wp2_with fail
  clear x0 x1 x2 x3 x4 x5 x6 x7 x8 x9 x10 x11
  refine (put_any _ t 3 0 _ [] v_b9p _ T1.out (by omega) (by omega) (by simp) (by omega) (by omega) hB.out).mono ?_
  rintro e w3 (⟨_, rfl, hb⟩ | ⟨hv, _⟩)
  case inr => rw [ok_b9p] at hv; cases hv
  have T3 := hid (T1.out.below hb)
  have X3 := hid ((hb.block bx (blk_lt X2.out)).trans X2.out)
  have hb3 := hid (hb2.out.trans (hb.mono hb2.out.size))
  clear hb T1 X2 hb2 hB hW hBx
  have x0 : w3.cell? ⟨bx, 0, none⟩ = some (.int .i64 7) := (blk_cell X3.out 0).trans rfl
  have x1 : w3.cell? ⟨bx, 1, none⟩ = some (.int .i64 5) := (blk_cell X3.out 1).trans rfl
  have x2 : w3.cell? ⟨bx, 2, none⟩ = some (.int .i64 3) := (blk_cell X3.out 2).trans rfl
  have x3 : w3.cell? ⟨bx, 3, none⟩ = some (.int .i64 1) := (blk_cell X3.out 3).trans rfl
  have x4 : w3.cell? ⟨bx, 4, none⟩ = some (.int .i64 2) := (blk_cell X3.out 4).trans rfl
  have x5 : w3.cell? ⟨bx, 5, none⟩ = some (.string ⟨#[107]⟩) := (blk_cell X3.out 5).trans rfl
  have x6 : w3.cell? ⟨bx, 6, none⟩ = some (.bool true) := (blk_cell X3.out 6).trans rfl
  have x7 : w3.cell? ⟨bx, 7, none⟩ = some (.string ⟨#[49, 50, 51, 52, 53, 54, 55, 56, 57, 48, 49, 50, 51, 52, 53, 54, 55]⟩) := (blk_cell X3.out 7).trans rfl
  have x8 : w3.cell? ⟨bx, 8, none⟩ = some (.bool true) := (blk_cell X3.out 8).trans rfl
  have x9 : w3.cell? ⟨bx, 9, none⟩ = some (.string ⟨#[121]⟩) := (blk_cell X3.out 9).trans rfl
  have x10 : w3.cell? ⟨bx, 10, none⟩ = some (.int .i64 4) := (blk_cell X3.out 10).trans rfl
  have x11 : w3.cell? ⟨bx, 11, none⟩ = some (.int .i64 6) := (blk_cell X3.out 11).trans rfl
  go_wp2_with fail
  clear x0 x1 x2 x3 x4 x5 x6 x7 x8 x9 x10 x11
  refine (valid_any v_b9p _).mono ?_
  rintro e w4 ⟨rfl, hb4⟩
  have hok := ok_b9p
  have T4 := hid (T3.out.below hb4)
  have hb4' := hid (hb3.out.trans (hb4.mono hb3.out.size))
  clear hb4 T3 X3 hb3
  go_wp2_with fail
  refine (list_any _ t _ _ _ _ _ T4.out (by simp)).mono ?_
  rintro e w5 ⟨v, d, rfl, hp, hs, ho, _, hb5⟩
  obtain rfl := perm_zero hp
  obtain ⟨a, cap, rfl⟩ := ownV_empty ho
  have T5 := hid (T4.out.below hb5)
  have hb5' := hid (hb4'.out.trans (hb5.mono hb4'.out.size))
  clear hb5 T4 hb4' hp hs ho
  go_wp2_with fail
  refine (total_any _ t _ _ _ _ _ T5.out).mono ?_
  rintro e w6 ⟨rfl, rfl⟩
  go_wp2_with fail
  go_ret
  exact ⟨rfl, hb5'.out⟩

def v_b10n : V := ⟨7, 5, 3, 1, 2, ⟨#[107]⟩, true, ⟨#[120]⟩, true, ⟨#[49, 50, 51, 52, 53, 54, 55, 56, 57, 48, 49, 50, 51, 52, 53, 54]⟩, 4, 6⟩
theorem ok_b10n : validB v_b10n = true := by decide
set_option maxHeartbeats 4000000 in
set_option maxRecDepth 1000000 in
theorem b10n (w : World) : Calls Try.prog 5 #[.int .i64 10, .bool false] w fun e w' => e = .returned (.bool true) ∧ Below w.heap.size w w' := by
  go_enter Try.func5, Try.ntmps5
  go_wp2_with fail
  refine (anchor_any _).mono ?_
  rintro e w1 ⟨rfl, hb1⟩
  go_wp2_with fail
  refine (new_good 3 _ (by omega) (by omega)).mono ?_
  rintro e w2 ⟨t, rfl, hT, hb⟩
  have hb0 := hid (hb1.alloc hb1.size (.cells #[.int .i64 v_b10n.kind, .int .i64 v_b10n.time, .int .i64 v_b10n.txn, .int .i64 v_b10n.op, .int .i64 v_b10n.wit, .string v_b10n.key, .bool v_b10n.want, .string v_b10n.exp, .bool v_b10n.got, .string v_b10n.obs, .int .i64 v_b10n.frm, .int .i64 v_b10n.to] 30))
  have hx := (hb.block w1.heap.size (by simp)).trans (heap_alloc_new w1 _)
  have T1 := hid hT
  have hb2 := hid (hb0.out.trans (hb.mono hb0.out.size))
  have hB := hid hb.size
  have hW := hid hb0.out.size
  have hBx := hid (show w1.heap.size < (w1.alloc (.cells #[.int .i64 v_b10n.kind, .int .i64 v_b10n.time, .int .i64 v_b10n.txn, .int .i64 v_b10n.op, .int .i64 v_b10n.wit, .string v_b10n.key, .bool v_b10n.want, .string v_b10n.exp, .bool v_b10n.got, .string v_b10n.obs, .int .i64 v_b10n.frm, .int .i64 v_b10n.to] 30)).heap.size from by simp)
  clear hT hb hb0 hb1
  have x0 : w2.cell? ⟨w1.heap.size, 0, none⟩ = some (.int .i64 7) := (blk_cell hx 0).trans rfl
  have x1 : w2.cell? ⟨w1.heap.size, 1, none⟩ = some (.int .i64 5) := (blk_cell hx 1).trans rfl
  have x2 : w2.cell? ⟨w1.heap.size, 2, none⟩ = some (.int .i64 3) := (blk_cell hx 2).trans rfl
  have x3 : w2.cell? ⟨w1.heap.size, 3, none⟩ = some (.int .i64 1) := (blk_cell hx 3).trans rfl
  have x4 : w2.cell? ⟨w1.heap.size, 4, none⟩ = some (.int .i64 2) := (blk_cell hx 4).trans rfl
  have x5 : w2.cell? ⟨w1.heap.size, 5, none⟩ = some (.string ⟨#[107]⟩) := (blk_cell hx 5).trans rfl
  have x6 : w2.cell? ⟨w1.heap.size, 6, none⟩ = some (.bool true) := (blk_cell hx 6).trans rfl
  have x7 : w2.cell? ⟨w1.heap.size, 7, none⟩ = some (.string ⟨#[120]⟩) := (blk_cell hx 7).trans rfl
  have x8 : w2.cell? ⟨w1.heap.size, 8, none⟩ = some (.bool true) := (blk_cell hx 8).trans rfl
  have x9 : w2.cell? ⟨w1.heap.size, 9, none⟩ = some (.string ⟨#[49, 50, 51, 52, 53, 54, 55, 56, 57, 48, 49, 50, 51, 52, 53, 54]⟩) := (blk_cell hx 9).trans rfl
  have x10 : w2.cell? ⟨w1.heap.size, 10, none⟩ = some (.int .i64 4) := (blk_cell hx 10).trans rfl
  have x11 : w2.cell? ⟨w1.heap.size, 11, none⟩ = some (.int .i64 6) := (blk_cell hx 11).trans rfl
  have X2 := hid hx
  clear hx
  generalize w1.heap.size = bx at *
  go_wp2_with fail
  clear x0 x1 x2 x3 x4 x5 x6 x7 x8 x9 x10 x11
  refine (put_any _ t 3 0 _ [] v_b10n _ T1.out (by omega) (by omega) (by simp) (by omega) (by omega) hB.out).mono ?_
  rintro e w3 (⟨hv, _⟩ | ⟨_, rfl, hv', hT, hb⟩)
  case inl => rw [ok_b10n] at hv; cases hv
  rw [putOne] at hT
  have T3 := hid hT
  have X3 := hid ((hb.block bx hBx.out).trans X2.out)
  have hb3 := hid (hb2.out.trans (hb.mono hW.out))
  clear hT
  clear hb T1 X2 hb2 hB hW hBx
  have x0 : w3.cell? ⟨bx, 0, none⟩ = some (.int .i64 7) := (blk_cell X3.out 0).trans rfl
  have x1 : w3.cell? ⟨bx, 1, none⟩ = some (.int .i64 5) := (blk_cell X3.out 1).trans rfl
  have x2 : w3.cell? ⟨bx, 2, none⟩ = some (.int .i64 3) := (blk_cell X3.out 2).trans rfl
  have x3 : w3.cell? ⟨bx, 3, none⟩ = some (.int .i64 1) := (blk_cell X3.out 3).trans rfl
  have x4 : w3.cell? ⟨bx, 4, none⟩ = some (.int .i64 2) := (blk_cell X3.out 4).trans rfl
  have x5 : w3.cell? ⟨bx, 5, none⟩ = some (.string ⟨#[107]⟩) := (blk_cell X3.out 5).trans rfl
  have x6 : w3.cell? ⟨bx, 6, none⟩ = some (.bool true) := (blk_cell X3.out 6).trans rfl
  have x7 : w3.cell? ⟨bx, 7, none⟩ = some (.string ⟨#[120]⟩) := (blk_cell X3.out 7).trans rfl
  have x8 : w3.cell? ⟨bx, 8, none⟩ = some (.bool true) := (blk_cell X3.out 8).trans rfl
  have x9 : w3.cell? ⟨bx, 9, none⟩ = some (.string ⟨#[49, 50, 51, 52, 53, 54, 55, 56, 57, 48, 49, 50, 51, 52, 53, 54]⟩) := (blk_cell X3.out 9).trans rfl
  have x10 : w3.cell? ⟨bx, 10, none⟩ = some (.int .i64 4) := (blk_cell X3.out 10).trans rfl
  have x11 : w3.cell? ⟨bx, 11, none⟩ = some (.int .i64 6) := (blk_cell X3.out 11).trans rfl
  go_wp2_with fail
  clear x0 x1 x2 x3 x4 x5 x6 x7 x8 x9 x10 x11
  refine (valid_any v_b10n _).mono ?_
  rintro e w4 ⟨rfl, hb4⟩
  have hok := ok_b10n
  have T4 := hid (T3.out.below hb4)
  have hb4' := hid (hb3.out.trans (hb4.mono hb3.out.size))
  clear hb4 T3 X3 hb3
  go_wp2_with fail
  refine (list_any _ t _ _ _ _ _ T4.out (by simp)).mono ?_
  rintro e w5 ⟨v, d, rfl, hp, hs, ho, _, hb5⟩
  obtain rfl := perm_one hp
  obtain ⟨a, cap, rfl, _⟩ := ownV_open ho (by simp)
  simp only [List.map_cons, List.map_nil, List.length_cons, List.length_nil, Nat.zero_add]
  have T5 := hid (T4.out.below hb5)
  have hb5' := hid (hb4'.out.trans (hb5.mono hb4'.out.size))
  clear hb5 T4 hb4' hp hs ho
  go_wp2_with fail
  refine (total_any _ t _ _ _ _ _ T5.out).mono ?_
  rintro e w6 ⟨rfl, rfl⟩
  go_wp2_with fail
  go_ret
  exact ⟨rfl, hb5'.out⟩

def v_b10p : V := ⟨7, 5, 3, 1, 2, ⟨#[107]⟩, true, ⟨#[120]⟩, true, ⟨#[49, 50, 51, 52, 53, 54, 55, 56, 57, 48, 49, 50, 51, 52, 53, 54, 55]⟩, 4, 6⟩
theorem ok_b10p : validB v_b10p = false := by decide
set_option maxHeartbeats 4000000 in
set_option maxRecDepth 1000000 in
theorem b10p (w : World) : Calls Try.prog 5 #[.int .i64 10, .bool true] w fun e w' => e = .returned (.bool true) ∧ Below w.heap.size w w' := by
  go_enter Try.func5, Try.ntmps5
  go_wp2_with fail
  refine (anchor_any _).mono ?_
  rintro e w1 ⟨rfl, hb1⟩
  go_wp2_with fail
  refine (new_good 3 _ (by omega) (by omega)).mono ?_
  rintro e w2 ⟨t, rfl, hT, hb⟩
  have hb0 := hid (hb1.alloc hb1.size (.cells #[.int .i64 v_b10p.kind, .int .i64 v_b10p.time, .int .i64 v_b10p.txn, .int .i64 v_b10p.op, .int .i64 v_b10p.wit, .string v_b10p.key, .bool v_b10p.want, .string v_b10p.exp, .bool v_b10p.got, .string v_b10p.obs, .int .i64 v_b10p.frm, .int .i64 v_b10p.to] 30))
  have hx := (hb.block w1.heap.size (by simp)).trans (heap_alloc_new w1 _)
  have T1 := hid hT
  have hb2 := hid (hb0.out.trans (hb.mono hb0.out.size))
  have hB := hid hb.size
  have hW := hid hb0.out.size
  have hBx := hid (show w1.heap.size < (w1.alloc (.cells #[.int .i64 v_b10p.kind, .int .i64 v_b10p.time, .int .i64 v_b10p.txn, .int .i64 v_b10p.op, .int .i64 v_b10p.wit, .string v_b10p.key, .bool v_b10p.want, .string v_b10p.exp, .bool v_b10p.got, .string v_b10p.obs, .int .i64 v_b10p.frm, .int .i64 v_b10p.to] 30)).heap.size from by simp)
  clear hT hb hb0 hb1
  have x0 : w2.cell? ⟨w1.heap.size, 0, none⟩ = some (.int .i64 7) := (blk_cell hx 0).trans rfl
  have x1 : w2.cell? ⟨w1.heap.size, 1, none⟩ = some (.int .i64 5) := (blk_cell hx 1).trans rfl
  have x2 : w2.cell? ⟨w1.heap.size, 2, none⟩ = some (.int .i64 3) := (blk_cell hx 2).trans rfl
  have x3 : w2.cell? ⟨w1.heap.size, 3, none⟩ = some (.int .i64 1) := (blk_cell hx 3).trans rfl
  have x4 : w2.cell? ⟨w1.heap.size, 4, none⟩ = some (.int .i64 2) := (blk_cell hx 4).trans rfl
  have x5 : w2.cell? ⟨w1.heap.size, 5, none⟩ = some (.string ⟨#[107]⟩) := (blk_cell hx 5).trans rfl
  have x6 : w2.cell? ⟨w1.heap.size, 6, none⟩ = some (.bool true) := (blk_cell hx 6).trans rfl
  have x7 : w2.cell? ⟨w1.heap.size, 7, none⟩ = some (.string ⟨#[120]⟩) := (blk_cell hx 7).trans rfl
  have x8 : w2.cell? ⟨w1.heap.size, 8, none⟩ = some (.bool true) := (blk_cell hx 8).trans rfl
  have x9 : w2.cell? ⟨w1.heap.size, 9, none⟩ = some (.string ⟨#[49, 50, 51, 52, 53, 54, 55, 56, 57, 48, 49, 50, 51, 52, 53, 54, 55]⟩) := (blk_cell hx 9).trans rfl
  have x10 : w2.cell? ⟨w1.heap.size, 10, none⟩ = some (.int .i64 4) := (blk_cell hx 10).trans rfl
  have x11 : w2.cell? ⟨w1.heap.size, 11, none⟩ = some (.int .i64 6) := (blk_cell hx 11).trans rfl
  have X2 := hid hx
  clear hx
  generalize w1.heap.size = bx at *
  go_wp2_with fail
  clear x0 x1 x2 x3 x4 x5 x6 x7 x8 x9 x10 x11
  refine (put_any _ t 3 0 _ [] v_b10p _ T1.out (by omega) (by omega) (by simp) (by omega) (by omega) hB.out).mono ?_
  rintro e w3 (⟨_, rfl, hb⟩ | ⟨hv, _⟩)
  case inr => rw [ok_b10p] at hv; cases hv
  have T3 := hid (T1.out.below hb)
  have X3 := hid ((hb.block bx (blk_lt X2.out)).trans X2.out)
  have hb3 := hid (hb2.out.trans (hb.mono hb2.out.size))
  clear hb T1 X2 hb2 hB hW hBx
  have x0 : w3.cell? ⟨bx, 0, none⟩ = some (.int .i64 7) := (blk_cell X3.out 0).trans rfl
  have x1 : w3.cell? ⟨bx, 1, none⟩ = some (.int .i64 5) := (blk_cell X3.out 1).trans rfl
  have x2 : w3.cell? ⟨bx, 2, none⟩ = some (.int .i64 3) := (blk_cell X3.out 2).trans rfl
  have x3 : w3.cell? ⟨bx, 3, none⟩ = some (.int .i64 1) := (blk_cell X3.out 3).trans rfl
  have x4 : w3.cell? ⟨bx, 4, none⟩ = some (.int .i64 2) := (blk_cell X3.out 4).trans rfl
  have x5 : w3.cell? ⟨bx, 5, none⟩ = some (.string ⟨#[107]⟩) := (blk_cell X3.out 5).trans rfl
  have x6 : w3.cell? ⟨bx, 6, none⟩ = some (.bool true) := (blk_cell X3.out 6).trans rfl
  have x7 : w3.cell? ⟨bx, 7, none⟩ = some (.string ⟨#[120]⟩) := (blk_cell X3.out 7).trans rfl
  have x8 : w3.cell? ⟨bx, 8, none⟩ = some (.bool true) := (blk_cell X3.out 8).trans rfl
  have x9 : w3.cell? ⟨bx, 9, none⟩ = some (.string ⟨#[49, 50, 51, 52, 53, 54, 55, 56, 57, 48, 49, 50, 51, 52, 53, 54, 55]⟩) := (blk_cell X3.out 9).trans rfl
  have x10 : w3.cell? ⟨bx, 10, none⟩ = some (.int .i64 4) := (blk_cell X3.out 10).trans rfl
  have x11 : w3.cell? ⟨bx, 11, none⟩ = some (.int .i64 6) := (blk_cell X3.out 11).trans rfl
  go_wp2_with fail
  clear x0 x1 x2 x3 x4 x5 x6 x7 x8 x9 x10 x11
  refine (valid_any v_b10p _).mono ?_
  rintro e w4 ⟨rfl, hb4⟩
  have hok := ok_b10p
  have T4 := hid (T3.out.below hb4)
  have hb4' := hid (hb3.out.trans (hb4.mono hb3.out.size))
  clear hb4 T3 X3 hb3
  go_wp2_with fail
  refine (list_any _ t _ _ _ _ _ T4.out (by simp)).mono ?_
  rintro e w5 ⟨v, d, rfl, hp, hs, ho, _, hb5⟩
  obtain rfl := perm_zero hp
  obtain ⟨a, cap, rfl⟩ := ownV_empty ho
  have T5 := hid (T4.out.below hb5)
  have hb5' := hid (hb4'.out.trans (hb5.mono hb4'.out.size))
  clear hb5 T4 hb4' hp hs ho
  go_wp2_with fail
  refine (total_any _ t _ _ _ _ _ T5.out).mono ?_
  rintro e w6 ⟨rfl, rfl⟩
  go_wp2_with fail
  go_ret
  exact ⟨rfl, hb5'.out⟩

def v_b11n : V := ⟨7, 5, 3, 1, 2, ⟨#[107]⟩, true, ⟨#[120]⟩, true, ⟨#[121]⟩, 4, 6⟩
theorem ok_b11n : validB v_b11n = true := by decide
set_option maxHeartbeats 4000000 in
set_option maxRecDepth 1000000 in
theorem b11n (w : World) : Calls Try.prog 5 #[.int .i64 11, .bool false] w fun e w' => e = .returned (.bool true) ∧ Below w.heap.size w w' := by
  go_enter Try.func5, Try.ntmps5
  go_wp2_with fail
  refine (anchor_any _).mono ?_
  rintro e w1 ⟨rfl, hb1⟩
  go_wp2_with fail
  refine (new_good 3 _ (by omega) (by omega)).mono ?_
  rintro e w2 ⟨t, rfl, hT, hb⟩
  have hb0 := hid (hb1.alloc hb1.size (.cells #[.int .i64 v_b11n.kind, .int .i64 v_b11n.time, .int .i64 v_b11n.txn, .int .i64 v_b11n.op, .int .i64 v_b11n.wit, .string v_b11n.key, .bool v_b11n.want, .string v_b11n.exp, .bool v_b11n.got, .string v_b11n.obs, .int .i64 v_b11n.frm, .int .i64 v_b11n.to] 30))
  have hx := (hb.block w1.heap.size (by simp)).trans (heap_alloc_new w1 _)
  have T1 := hid hT
  have hb2 := hid (hb0.out.trans (hb.mono hb0.out.size))
  have hB := hid hb.size
  have hW := hid hb0.out.size
  have hBx := hid (show w1.heap.size < (w1.alloc (.cells #[.int .i64 v_b11n.kind, .int .i64 v_b11n.time, .int .i64 v_b11n.txn, .int .i64 v_b11n.op, .int .i64 v_b11n.wit, .string v_b11n.key, .bool v_b11n.want, .string v_b11n.exp, .bool v_b11n.got, .string v_b11n.obs, .int .i64 v_b11n.frm, .int .i64 v_b11n.to] 30)).heap.size from by simp)
  clear hT hb hb0 hb1
  have x0 : w2.cell? ⟨w1.heap.size, 0, none⟩ = some (.int .i64 7) := (blk_cell hx 0).trans rfl
  have x1 : w2.cell? ⟨w1.heap.size, 1, none⟩ = some (.int .i64 5) := (blk_cell hx 1).trans rfl
  have x2 : w2.cell? ⟨w1.heap.size, 2, none⟩ = some (.int .i64 3) := (blk_cell hx 2).trans rfl
  have x3 : w2.cell? ⟨w1.heap.size, 3, none⟩ = some (.int .i64 1) := (blk_cell hx 3).trans rfl
  have x4 : w2.cell? ⟨w1.heap.size, 4, none⟩ = some (.int .i64 2) := (blk_cell hx 4).trans rfl
  have x5 : w2.cell? ⟨w1.heap.size, 5, none⟩ = some (.string ⟨#[107]⟩) := (blk_cell hx 5).trans rfl
  have x6 : w2.cell? ⟨w1.heap.size, 6, none⟩ = some (.bool true) := (blk_cell hx 6).trans rfl
  have x7 : w2.cell? ⟨w1.heap.size, 7, none⟩ = some (.string ⟨#[120]⟩) := (blk_cell hx 7).trans rfl
  have x8 : w2.cell? ⟨w1.heap.size, 8, none⟩ = some (.bool true) := (blk_cell hx 8).trans rfl
  have x9 : w2.cell? ⟨w1.heap.size, 9, none⟩ = some (.string ⟨#[121]⟩) := (blk_cell hx 9).trans rfl
  have x10 : w2.cell? ⟨w1.heap.size, 10, none⟩ = some (.int .i64 4) := (blk_cell hx 10).trans rfl
  have x11 : w2.cell? ⟨w1.heap.size, 11, none⟩ = some (.int .i64 6) := (blk_cell hx 11).trans rfl
  have X2 := hid hx
  clear hx
  generalize w1.heap.size = bx at *
  go_wp2_with fail
  clear x0 x1 x2 x3 x4 x5 x6 x7 x8 x9 x10 x11
  refine (put_any _ t 3 0 _ [] v_b11n _ T1.out (by omega) (by omega) (by simp) (by omega) (by omega) hB.out).mono ?_
  rintro e w3 (⟨hv, _⟩ | ⟨_, rfl, hv', hT, hb⟩)
  case inl => rw [ok_b11n] at hv; cases hv
  rw [putOne] at hT
  have T3 := hid hT
  have X3 := hid ((hb.block bx hBx.out).trans X2.out)
  have hb3 := hid (hb2.out.trans (hb.mono hW.out))
  clear hT
  clear hb T1 X2 hb2 hB hW hBx
  have x0 : w3.cell? ⟨bx, 0, none⟩ = some (.int .i64 7) := (blk_cell X3.out 0).trans rfl
  have x1 : w3.cell? ⟨bx, 1, none⟩ = some (.int .i64 5) := (blk_cell X3.out 1).trans rfl
  have x2 : w3.cell? ⟨bx, 2, none⟩ = some (.int .i64 3) := (blk_cell X3.out 2).trans rfl
  have x3 : w3.cell? ⟨bx, 3, none⟩ = some (.int .i64 1) := (blk_cell X3.out 3).trans rfl
  have x4 : w3.cell? ⟨bx, 4, none⟩ = some (.int .i64 2) := (blk_cell X3.out 4).trans rfl
  have x5 : w3.cell? ⟨bx, 5, none⟩ = some (.string ⟨#[107]⟩) := (blk_cell X3.out 5).trans rfl
  have x6 : w3.cell? ⟨bx, 6, none⟩ = some (.bool true) := (blk_cell X3.out 6).trans rfl
  have x7 : w3.cell? ⟨bx, 7, none⟩ = some (.string ⟨#[120]⟩) := (blk_cell X3.out 7).trans rfl
  have x8 : w3.cell? ⟨bx, 8, none⟩ = some (.bool true) := (blk_cell X3.out 8).trans rfl
  have x9 : w3.cell? ⟨bx, 9, none⟩ = some (.string ⟨#[121]⟩) := (blk_cell X3.out 9).trans rfl
  have x10 : w3.cell? ⟨bx, 10, none⟩ = some (.int .i64 4) := (blk_cell X3.out 10).trans rfl
  have x11 : w3.cell? ⟨bx, 11, none⟩ = some (.int .i64 6) := (blk_cell X3.out 11).trans rfl
  go_wp2_with fail
  clear x0 x1 x2 x3 x4 x5 x6 x7 x8 x9 x10 x11
  refine (valid_any v_b11n _).mono ?_
  rintro e w4 ⟨rfl, hb4⟩
  have hok := ok_b11n
  have T4 := hid (T3.out.below hb4)
  have hb4' := hid (hb3.out.trans (hb4.mono hb3.out.size))
  clear hb4 T3 X3 hb3
  go_wp2_with fail
  refine (list_any _ t _ _ _ _ _ T4.out (by simp)).mono ?_
  rintro e w5 ⟨v, d, rfl, hp, hs, ho, _, hb5⟩
  obtain rfl := perm_one hp
  obtain ⟨a, cap, rfl, _⟩ := ownV_open ho (by simp)
  simp only [List.map_cons, List.map_nil, List.length_cons, List.length_nil, Nat.zero_add]
  have T5 := hid (T4.out.below hb5)
  have hb5' := hid (hb4'.out.trans (hb5.mono hb4'.out.size))
  clear hb5 T4 hb4' hp hs ho
  go_wp2_with fail
  refine (total_any _ t _ _ _ _ _ T5.out).mono ?_
  rintro e w6 ⟨rfl, rfl⟩
  go_wp2_with fail
  go_ret
  exact ⟨rfl, hb5'.out⟩

def v_b11p : V := ⟨7, 5, 3, 1, 2, ⟨#[107]⟩, false, ⟨#[120]⟩, true, ⟨#[121]⟩, 4, 6⟩
theorem ok_b11p : validB v_b11p = false := by decide
set_option maxHeartbeats 4000000 in
set_option maxRecDepth 1000000 in
theorem b11p (w : World) : Calls Try.prog 5 #[.int .i64 11, .bool true] w fun e w' => e = .returned (.bool true) ∧ Below w.heap.size w w' := by
  go_enter Try.func5, Try.ntmps5
  go_wp2_with fail
  refine (anchor_any _).mono ?_
  rintro e w1 ⟨rfl, hb1⟩
  go_wp2_with fail
  refine (new_good 3 _ (by omega) (by omega)).mono ?_
  rintro e w2 ⟨t, rfl, hT, hb⟩
  have hb0 := hid (hb1.alloc hb1.size (.cells #[.int .i64 v_b11p.kind, .int .i64 v_b11p.time, .int .i64 v_b11p.txn, .int .i64 v_b11p.op, .int .i64 v_b11p.wit, .string v_b11p.key, .bool v_b11p.want, .string v_b11p.exp, .bool v_b11p.got, .string v_b11p.obs, .int .i64 v_b11p.frm, .int .i64 v_b11p.to] 30))
  have hx := (hb.block w1.heap.size (by simp)).trans (heap_alloc_new w1 _)
  have T1 := hid hT
  have hb2 := hid (hb0.out.trans (hb.mono hb0.out.size))
  have hB := hid hb.size
  have hW := hid hb0.out.size
  have hBx := hid (show w1.heap.size < (w1.alloc (.cells #[.int .i64 v_b11p.kind, .int .i64 v_b11p.time, .int .i64 v_b11p.txn, .int .i64 v_b11p.op, .int .i64 v_b11p.wit, .string v_b11p.key, .bool v_b11p.want, .string v_b11p.exp, .bool v_b11p.got, .string v_b11p.obs, .int .i64 v_b11p.frm, .int .i64 v_b11p.to] 30)).heap.size from by simp)
  clear hT hb hb0 hb1
  have x0 : w2.cell? ⟨w1.heap.size, 0, none⟩ = some (.int .i64 7) := (blk_cell hx 0).trans rfl
  have x1 : w2.cell? ⟨w1.heap.size, 1, none⟩ = some (.int .i64 5) := (blk_cell hx 1).trans rfl
  have x2 : w2.cell? ⟨w1.heap.size, 2, none⟩ = some (.int .i64 3) := (blk_cell hx 2).trans rfl
  have x3 : w2.cell? ⟨w1.heap.size, 3, none⟩ = some (.int .i64 1) := (blk_cell hx 3).trans rfl
  have x4 : w2.cell? ⟨w1.heap.size, 4, none⟩ = some (.int .i64 2) := (blk_cell hx 4).trans rfl
  have x5 : w2.cell? ⟨w1.heap.size, 5, none⟩ = some (.string ⟨#[107]⟩) := (blk_cell hx 5).trans rfl
  have x6 : w2.cell? ⟨w1.heap.size, 6, none⟩ = some (.bool false) := (blk_cell hx 6).trans rfl
  have x7 : w2.cell? ⟨w1.heap.size, 7, none⟩ = some (.string ⟨#[120]⟩) := (blk_cell hx 7).trans rfl
  have x8 : w2.cell? ⟨w1.heap.size, 8, none⟩ = some (.bool true) := (blk_cell hx 8).trans rfl
  have x9 : w2.cell? ⟨w1.heap.size, 9, none⟩ = some (.string ⟨#[121]⟩) := (blk_cell hx 9).trans rfl
  have x10 : w2.cell? ⟨w1.heap.size, 10, none⟩ = some (.int .i64 4) := (blk_cell hx 10).trans rfl
  have x11 : w2.cell? ⟨w1.heap.size, 11, none⟩ = some (.int .i64 6) := (blk_cell hx 11).trans rfl
  have X2 := hid hx
  clear hx
  generalize w1.heap.size = bx at *
  go_wp2_with fail
  clear x0 x1 x2 x3 x4 x5 x6 x7 x8 x9 x10 x11
  refine (put_any _ t 3 0 _ [] v_b11p _ T1.out (by omega) (by omega) (by simp) (by omega) (by omega) hB.out).mono ?_
  rintro e w3 (⟨_, rfl, hb⟩ | ⟨hv, _⟩)
  case inr => rw [ok_b11p] at hv; cases hv
  have T3 := hid (T1.out.below hb)
  have X3 := hid ((hb.block bx (blk_lt X2.out)).trans X2.out)
  have hb3 := hid (hb2.out.trans (hb.mono hb2.out.size))
  clear hb T1 X2 hb2 hB hW hBx
  have x0 : w3.cell? ⟨bx, 0, none⟩ = some (.int .i64 7) := (blk_cell X3.out 0).trans rfl
  have x1 : w3.cell? ⟨bx, 1, none⟩ = some (.int .i64 5) := (blk_cell X3.out 1).trans rfl
  have x2 : w3.cell? ⟨bx, 2, none⟩ = some (.int .i64 3) := (blk_cell X3.out 2).trans rfl
  have x3 : w3.cell? ⟨bx, 3, none⟩ = some (.int .i64 1) := (blk_cell X3.out 3).trans rfl
  have x4 : w3.cell? ⟨bx, 4, none⟩ = some (.int .i64 2) := (blk_cell X3.out 4).trans rfl
  have x5 : w3.cell? ⟨bx, 5, none⟩ = some (.string ⟨#[107]⟩) := (blk_cell X3.out 5).trans rfl
  have x6 : w3.cell? ⟨bx, 6, none⟩ = some (.bool false) := (blk_cell X3.out 6).trans rfl
  have x7 : w3.cell? ⟨bx, 7, none⟩ = some (.string ⟨#[120]⟩) := (blk_cell X3.out 7).trans rfl
  have x8 : w3.cell? ⟨bx, 8, none⟩ = some (.bool true) := (blk_cell X3.out 8).trans rfl
  have x9 : w3.cell? ⟨bx, 9, none⟩ = some (.string ⟨#[121]⟩) := (blk_cell X3.out 9).trans rfl
  have x10 : w3.cell? ⟨bx, 10, none⟩ = some (.int .i64 4) := (blk_cell X3.out 10).trans rfl
  have x11 : w3.cell? ⟨bx, 11, none⟩ = some (.int .i64 6) := (blk_cell X3.out 11).trans rfl
  go_wp2_with fail
  clear x0 x1 x2 x3 x4 x5 x6 x7 x8 x9 x10 x11
  refine (valid_any v_b11p _).mono ?_
  rintro e w4 ⟨rfl, hb4⟩
  have hok := ok_b11p
  have T4 := hid (T3.out.below hb4)
  have hb4' := hid (hb3.out.trans (hb4.mono hb3.out.size))
  clear hb4 T3 X3 hb3
  go_wp2_with fail
  refine (list_any _ t _ _ _ _ _ T4.out (by simp)).mono ?_
  rintro e w5 ⟨v, d, rfl, hp, hs, ho, _, hb5⟩
  obtain rfl := perm_zero hp
  obtain ⟨a, cap, rfl⟩ := ownV_empty ho
  have T5 := hid (T4.out.below hb5)
  have hb5' := hid (hb4'.out.trans (hb5.mono hb4'.out.size))
  clear hb5 T4 hb4' hp hs ho
  go_wp2_with fail
  refine (total_any _ t _ _ _ _ _ T5.out).mono ?_
  rintro e w6 ⟨rfl, rfl⟩
  go_wp2_with fail
  go_ret
  exact ⟨rfl, hb5'.out⟩

def v_b12n : V := ⟨7, 5, 3, 1, 2, ⟨#[107]⟩, true, ⟨#[120]⟩, true, ⟨#[121]⟩, 4, 6⟩
theorem ok_b12n : validB v_b12n = true := by decide
set_option maxHeartbeats 4000000 in
set_option maxRecDepth 1000000 in
theorem b12n (w : World) : Calls Try.prog 5 #[.int .i64 12, .bool false] w fun e w' => e = .returned (.bool true) ∧ Below w.heap.size w w' := by
  go_enter Try.func5, Try.ntmps5
  go_wp2_with fail
  refine (anchor_any _).mono ?_
  rintro e w1 ⟨rfl, hb1⟩
  go_wp2_with fail
  refine (new_good 3 _ (by omega) (by omega)).mono ?_
  rintro e w2 ⟨t, rfl, hT, hb⟩
  have hb0 := hid (hb1.alloc hb1.size (.cells #[.int .i64 v_b12n.kind, .int .i64 v_b12n.time, .int .i64 v_b12n.txn, .int .i64 v_b12n.op, .int .i64 v_b12n.wit, .string v_b12n.key, .bool v_b12n.want, .string v_b12n.exp, .bool v_b12n.got, .string v_b12n.obs, .int .i64 v_b12n.frm, .int .i64 v_b12n.to] 30))
  have hx := (hb.block w1.heap.size (by simp)).trans (heap_alloc_new w1 _)
  have T1 := hid hT
  have hb2 := hid (hb0.out.trans (hb.mono hb0.out.size))
  have hB := hid hb.size
  have hW := hid hb0.out.size
  have hBx := hid (show w1.heap.size < (w1.alloc (.cells #[.int .i64 v_b12n.kind, .int .i64 v_b12n.time, .int .i64 v_b12n.txn, .int .i64 v_b12n.op, .int .i64 v_b12n.wit, .string v_b12n.key, .bool v_b12n.want, .string v_b12n.exp, .bool v_b12n.got, .string v_b12n.obs, .int .i64 v_b12n.frm, .int .i64 v_b12n.to] 30)).heap.size from by simp)
  clear hT hb hb0 hb1
  have x0 : w2.cell? ⟨w1.heap.size, 0, none⟩ = some (.int .i64 7) := (blk_cell hx 0).trans rfl
  have x1 : w2.cell? ⟨w1.heap.size, 1, none⟩ = some (.int .i64 5) := (blk_cell hx 1).trans rfl
  have x2 : w2.cell? ⟨w1.heap.size, 2, none⟩ = some (.int .i64 3) := (blk_cell hx 2).trans rfl
  have x3 : w2.cell? ⟨w1.heap.size, 3, none⟩ = some (.int .i64 1) := (blk_cell hx 3).trans rfl
  have x4 : w2.cell? ⟨w1.heap.size, 4, none⟩ = some (.int .i64 2) := (blk_cell hx 4).trans rfl
  have x5 : w2.cell? ⟨w1.heap.size, 5, none⟩ = some (.string ⟨#[107]⟩) := (blk_cell hx 5).trans rfl
  have x6 : w2.cell? ⟨w1.heap.size, 6, none⟩ = some (.bool true) := (blk_cell hx 6).trans rfl
  have x7 : w2.cell? ⟨w1.heap.size, 7, none⟩ = some (.string ⟨#[120]⟩) := (blk_cell hx 7).trans rfl
  have x8 : w2.cell? ⟨w1.heap.size, 8, none⟩ = some (.bool true) := (blk_cell hx 8).trans rfl
  have x9 : w2.cell? ⟨w1.heap.size, 9, none⟩ = some (.string ⟨#[121]⟩) := (blk_cell hx 9).trans rfl
  have x10 : w2.cell? ⟨w1.heap.size, 10, none⟩ = some (.int .i64 4) := (blk_cell hx 10).trans rfl
  have x11 : w2.cell? ⟨w1.heap.size, 11, none⟩ = some (.int .i64 6) := (blk_cell hx 11).trans rfl
  have X2 := hid hx
  clear hx
  generalize w1.heap.size = bx at *
  go_wp2_with fail
  clear x0 x1 x2 x3 x4 x5 x6 x7 x8 x9 x10 x11
  refine (put_any _ t 3 0 _ [] v_b12n _ T1.out (by omega) (by omega) (by simp) (by omega) (by omega) hB.out).mono ?_
  rintro e w3 (⟨hv, _⟩ | ⟨_, rfl, hv', hT, hb⟩)
  case inl => rw [ok_b12n] at hv; cases hv
  rw [putOne] at hT
  have T3 := hid hT
  have X3 := hid ((hb.block bx hBx.out).trans X2.out)
  have hb3 := hid (hb2.out.trans (hb.mono hW.out))
  clear hT
  clear hb T1 X2 hb2 hB hW hBx
  have x0 : w3.cell? ⟨bx, 0, none⟩ = some (.int .i64 7) := (blk_cell X3.out 0).trans rfl
  have x1 : w3.cell? ⟨bx, 1, none⟩ = some (.int .i64 5) := (blk_cell X3.out 1).trans rfl
  have x2 : w3.cell? ⟨bx, 2, none⟩ = some (.int .i64 3) := (blk_cell X3.out 2).trans rfl
  have x3 : w3.cell? ⟨bx, 3, none⟩ = some (.int .i64 1) := (blk_cell X3.out 3).trans rfl
  have x4 : w3.cell? ⟨bx, 4, none⟩ = some (.int .i64 2) := (blk_cell X3.out 4).trans rfl
  have x5 : w3.cell? ⟨bx, 5, none⟩ = some (.string ⟨#[107]⟩) := (blk_cell X3.out 5).trans rfl
  have x6 : w3.cell? ⟨bx, 6, none⟩ = some (.bool true) := (blk_cell X3.out 6).trans rfl
  have x7 : w3.cell? ⟨bx, 7, none⟩ = some (.string ⟨#[120]⟩) := (blk_cell X3.out 7).trans rfl
  have x8 : w3.cell? ⟨bx, 8, none⟩ = some (.bool true) := (blk_cell X3.out 8).trans rfl
  have x9 : w3.cell? ⟨bx, 9, none⟩ = some (.string ⟨#[121]⟩) := (blk_cell X3.out 9).trans rfl
  have x10 : w3.cell? ⟨bx, 10, none⟩ = some (.int .i64 4) := (blk_cell X3.out 10).trans rfl
  have x11 : w3.cell? ⟨bx, 11, none⟩ = some (.int .i64 6) := (blk_cell X3.out 11).trans rfl
  go_wp2_with fail
  clear x0 x1 x2 x3 x4 x5 x6 x7 x8 x9 x10 x11
  refine (valid_any v_b12n _).mono ?_
  rintro e w4 ⟨rfl, hb4⟩
  have hok := ok_b12n
  have T4 := hid (T3.out.below hb4)
  have hb4' := hid (hb3.out.trans (hb4.mono hb3.out.size))
  clear hb4 T3 X3 hb3
  go_wp2_with fail
  refine (list_any _ t _ _ _ _ _ T4.out (by simp)).mono ?_
  rintro e w5 ⟨v, d, rfl, hp, hs, ho, _, hb5⟩
  obtain rfl := perm_one hp
  obtain ⟨a, cap, rfl, _⟩ := ownV_open ho (by simp)
  simp only [List.map_cons, List.map_nil, List.length_cons, List.length_nil, Nat.zero_add]
  have T5 := hid (T4.out.below hb5)
  have hb5' := hid (hb4'.out.trans (hb5.mono hb4'.out.size))
  clear hb5 T4 hb4' hp hs ho
  go_wp2_with fail
  refine (total_any _ t _ _ _ _ _ T5.out).mono ?_
  rintro e w6 ⟨rfl, rfl⟩
  go_wp2_with fail
  go_ret
  exact ⟨rfl, hb5'.out⟩

def v_b12p : V := ⟨7, 5, 3, 1, 2, ⟨#[107]⟩, true, ⟨#[120]⟩, false, ⟨#[121]⟩, 4, 6⟩
theorem ok_b12p : validB v_b12p = false := by decide
set_option maxHeartbeats 4000000 in
set_option maxRecDepth 1000000 in
theorem b12p (w : World) : Calls Try.prog 5 #[.int .i64 12, .bool true] w fun e w' => e = .returned (.bool true) ∧ Below w.heap.size w w' := by
  go_enter Try.func5, Try.ntmps5
  go_wp2_with fail
  refine (anchor_any _).mono ?_
  rintro e w1 ⟨rfl, hb1⟩
  go_wp2_with fail
  refine (new_good 3 _ (by omega) (by omega)).mono ?_
  rintro e w2 ⟨t, rfl, hT, hb⟩
  have hb0 := hid (hb1.alloc hb1.size (.cells #[.int .i64 v_b12p.kind, .int .i64 v_b12p.time, .int .i64 v_b12p.txn, .int .i64 v_b12p.op, .int .i64 v_b12p.wit, .string v_b12p.key, .bool v_b12p.want, .string v_b12p.exp, .bool v_b12p.got, .string v_b12p.obs, .int .i64 v_b12p.frm, .int .i64 v_b12p.to] 30))
  have hx := (hb.block w1.heap.size (by simp)).trans (heap_alloc_new w1 _)
  have T1 := hid hT
  have hb2 := hid (hb0.out.trans (hb.mono hb0.out.size))
  have hB := hid hb.size
  have hW := hid hb0.out.size
  have hBx := hid (show w1.heap.size < (w1.alloc (.cells #[.int .i64 v_b12p.kind, .int .i64 v_b12p.time, .int .i64 v_b12p.txn, .int .i64 v_b12p.op, .int .i64 v_b12p.wit, .string v_b12p.key, .bool v_b12p.want, .string v_b12p.exp, .bool v_b12p.got, .string v_b12p.obs, .int .i64 v_b12p.frm, .int .i64 v_b12p.to] 30)).heap.size from by simp)
  clear hT hb hb0 hb1
  have x0 : w2.cell? ⟨w1.heap.size, 0, none⟩ = some (.int .i64 7) := (blk_cell hx 0).trans rfl
  have x1 : w2.cell? ⟨w1.heap.size, 1, none⟩ = some (.int .i64 5) := (blk_cell hx 1).trans rfl
  have x2 : w2.cell? ⟨w1.heap.size, 2, none⟩ = some (.int .i64 3) := (blk_cell hx 2).trans rfl
  have x3 : w2.cell? ⟨w1.heap.size, 3, none⟩ = some (.int .i64 1) := (blk_cell hx 3).trans rfl
  have x4 : w2.cell? ⟨w1.heap.size, 4, none⟩ = some (.int .i64 2) := (blk_cell hx 4).trans rfl
  have x5 : w2.cell? ⟨w1.heap.size, 5, none⟩ = some (.string ⟨#[107]⟩) := (blk_cell hx 5).trans rfl
  have x6 : w2.cell? ⟨w1.heap.size, 6, none⟩ = some (.bool true) := (blk_cell hx 6).trans rfl
  have x7 : w2.cell? ⟨w1.heap.size, 7, none⟩ = some (.string ⟨#[120]⟩) := (blk_cell hx 7).trans rfl
  have x8 : w2.cell? ⟨w1.heap.size, 8, none⟩ = some (.bool false) := (blk_cell hx 8).trans rfl
  have x9 : w2.cell? ⟨w1.heap.size, 9, none⟩ = some (.string ⟨#[121]⟩) := (blk_cell hx 9).trans rfl
  have x10 : w2.cell? ⟨w1.heap.size, 10, none⟩ = some (.int .i64 4) := (blk_cell hx 10).trans rfl
  have x11 : w2.cell? ⟨w1.heap.size, 11, none⟩ = some (.int .i64 6) := (blk_cell hx 11).trans rfl
  have X2 := hid hx
  clear hx
  generalize w1.heap.size = bx at *
  go_wp2_with fail
  clear x0 x1 x2 x3 x4 x5 x6 x7 x8 x9 x10 x11
  refine (put_any _ t 3 0 _ [] v_b12p _ T1.out (by omega) (by omega) (by simp) (by omega) (by omega) hB.out).mono ?_
  rintro e w3 (⟨_, rfl, hb⟩ | ⟨hv, _⟩)
  case inr => rw [ok_b12p] at hv; cases hv
  have T3 := hid (T1.out.below hb)
  have X3 := hid ((hb.block bx (blk_lt X2.out)).trans X2.out)
  have hb3 := hid (hb2.out.trans (hb.mono hb2.out.size))
  clear hb T1 X2 hb2 hB hW hBx
  have x0 : w3.cell? ⟨bx, 0, none⟩ = some (.int .i64 7) := (blk_cell X3.out 0).trans rfl
  have x1 : w3.cell? ⟨bx, 1, none⟩ = some (.int .i64 5) := (blk_cell X3.out 1).trans rfl
  have x2 : w3.cell? ⟨bx, 2, none⟩ = some (.int .i64 3) := (blk_cell X3.out 2).trans rfl
  have x3 : w3.cell? ⟨bx, 3, none⟩ = some (.int .i64 1) := (blk_cell X3.out 3).trans rfl
  have x4 : w3.cell? ⟨bx, 4, none⟩ = some (.int .i64 2) := (blk_cell X3.out 4).trans rfl
  have x5 : w3.cell? ⟨bx, 5, none⟩ = some (.string ⟨#[107]⟩) := (blk_cell X3.out 5).trans rfl
  have x6 : w3.cell? ⟨bx, 6, none⟩ = some (.bool true) := (blk_cell X3.out 6).trans rfl
  have x7 : w3.cell? ⟨bx, 7, none⟩ = some (.string ⟨#[120]⟩) := (blk_cell X3.out 7).trans rfl
  have x8 : w3.cell? ⟨bx, 8, none⟩ = some (.bool false) := (blk_cell X3.out 8).trans rfl
  have x9 : w3.cell? ⟨bx, 9, none⟩ = some (.string ⟨#[121]⟩) := (blk_cell X3.out 9).trans rfl
  have x10 : w3.cell? ⟨bx, 10, none⟩ = some (.int .i64 4) := (blk_cell X3.out 10).trans rfl
  have x11 : w3.cell? ⟨bx, 11, none⟩ = some (.int .i64 6) := (blk_cell X3.out 11).trans rfl
  go_wp2_with fail
  clear x0 x1 x2 x3 x4 x5 x6 x7 x8 x9 x10 x11
  refine (valid_any v_b12p _).mono ?_
  rintro e w4 ⟨rfl, hb4⟩
  have hok := ok_b12p
  have T4 := hid (T3.out.below hb4)
  have hb4' := hid (hb3.out.trans (hb4.mono hb3.out.size))
  clear hb4 T3 X3 hb3
  go_wp2_with fail
  refine (list_any _ t _ _ _ _ _ T4.out (by simp)).mono ?_
  rintro e w5 ⟨v, d, rfl, hp, hs, ho, _, hb5⟩
  obtain rfl := perm_zero hp
  obtain ⟨a, cap, rfl⟩ := ownV_empty ho
  have T5 := hid (T4.out.below hb5)
  have hb5' := hid (hb4'.out.trans (hb5.mono hb4'.out.size))
  clear hb5 T4 hb4' hp hs ho
  go_wp2_with fail
  refine (total_any _ t _ _ _ _ _ T5.out).mono ?_
  rintro e w6 ⟨rfl, rfl⟩
  go_wp2_with fail
  go_ret
  exact ⟨rfl, hb5'.out⟩

end Go.Proofs.Ytgimpkbknaopcaa
