/- A violation and a put as plain data and as cells; the library's cmp.Compare and cmp.Or; Compare and behind. No statement is proved here. -/
import Derived.Test.YtgimpkbknaopcaaProg
import Derived.Test.YtgimpkbknaopcaaRow
import Derived.StillTailTactics
import Derived.Deep.Cut
import Derived.Sort.Grow
set_option linter.unusedVariables false
set_option linter.unusedSimpArgs false
namespace Go.Proofs.Ytgimpkbknaopcaa
open Go.RowKit Go.Sort

/-- w' is w with draws and new blocks alone. -/
def Laid (w w' : World) : Prop := ∃ q os, w' = grow (w.drewN q) os
theorem Laid.refl (w : World) : Laid w w := ⟨0, #[], by rw [grow_empty]; rfl⟩
theorem Laid.alloc {w w' : World} (h : Laid w w') (o : Obj) : Laid w (w'.alloc o) := by
  obtain ⟨q, os, rfl⟩ := h
  exact ⟨q, os ++ #[o], by rw [alloc_eq_grow, grow_grow]⟩
theorem Laid.drewN {w w' : World} (h : Laid w w') (n : Nat) : Laid w (w'.drewN n) := by
  obtain ⟨q, os, rfl⟩ := h
  exact ⟨q + n, os, by simp [grow, World.drewN, Nat.add_assoc]⟩
theorem Laid.drew {w w' : World} (h : Laid w w') : Laid w w'.drew := h.drewN 1
theorem Laid.trans {a b c : World} (h : Laid a b) (k : Laid b c) : Laid a c := by
  obtain ⟨q, os, rfl⟩ := k
  obtain ⟨m, os', e⟩ := h.drewN q
  exact ⟨m, os' ++ os, by rw [e, grow_grow]⟩
theorem Laid.below {w w' : World} (h : Laid w w') : Below w.heap.size w w' := by
  obtain ⟨q, os, rfl⟩ := h
  refine ⟨rfl, rfl, rfl, by simp [grow, World.drewN], fun k hk => ?_⟩
  simp only [grow, World.drewN]
  rw [Array.getElem?_append_left hk]

structure V where
  kind : Int
  time : Int
  txn : Int
  op : Int
  wit : Int
  key : ByteArray
  want : Bool
  exp : ByteArray
  got : Bool
  obs : ByteArray
  frm : Int
  to : Int
def V.cs (v : V) : List Value := [.int .i64 v.kind, .int .i64 v.time, .int .i64 v.txn, .int .i64 v.op, .int .i64 v.wit, .string v.key, .bool v.want, .string v.exp, .bool v.got, .string v.obs, .int .i64 v.frm, .int .i64 v.to]
abbrev V.agg (v : V) : Value := .agg #[.int .i64 v.kind, .int .i64 v.time, .int .i64 v.txn, .int .i64 v.op, .int .i64 v.wit, .string v.key, .bool v.want, .string v.exp, .bool v.got, .string v.obs, .int .i64 v.frm, .int .i64 v.to]
structure Pt where
  v : V
  num : Int
abbrev Pt.agg (p : Pt) : Value := .agg #[.int .i64 p.v.kind, .int .i64 p.v.time, .int .i64 p.v.txn, .int .i64 p.v.op, .int .i64 p.v.wit, .string p.v.key, .bool p.v.want, .string p.v.exp, .bool p.v.got, .string p.v.obs, .int .i64 p.v.frm, .int .i64 p.v.to, .int .i64 p.num]

def cmpI (a b : Int) : Int := if a < b then -1 else if b < a then 1 else 0
def orI (a b : Int) : Int := if a = 0 then b else a
def cmpV (x y : V) : Int := orI (cmpI x.time y.time) (orI (cmpI x.kind y.kind) (orI (cmpI x.txn y.txn) (cmpI x.op y.op)))

theorem cmp_any (a b : Int) (w : World) : Calls Try.prog 31 #[.int .i64 a, .int .i64 b] w fun e w' => e = .returned (.int .i64 (cmpI a b)) ∧ w' = w := by
  by_cases h1 : a < b
  · have e1 : cmpI a b = -1 := by simp [cmpI, h1]
    rw [e1]
    go_enter Try.func31, Try.ntmps31
    go_wp2
    go_ret
    exact ⟨rfl, rfl⟩
  · by_cases h2 : b < a
    · have e1 : cmpI a b = 1 := by simp [cmpI, h1, h2]
      rw [e1]
      go_enter Try.func31, Try.ntmps31
      go_wp2
      go_ret
      exact ⟨rfl, rfl⟩
    · have e1 : cmpI a b = 0 := by simp [cmpI, h1, h2]
      rw [e1]
      go_enter Try.func31, Try.ntmps31
      go_wp2
      go_ret
      exact ⟨rfl, rfl⟩

def OrPost (c0 c1 c2 c3 : Int) (w : World) (e : Ending) (w' : World) : Prop := e = .returned (.int .i64 (orI c0 (orI c1 (orI c2 c3)))) ∧ w' = w
theorem or_any (b : Nat) (c0 c1 c2 c3 : Int) (w : World) (h : w.heap[b]? = some (.cells #[.int .i64 c0, .int .i64 c1, .int .i64 c2, .int .i64 c3] 3 (0, 0))) :
    Calls Try.prog 30 #[.slice (some ⟨b, 0, none⟩) 4 4] w (OrPost c0 c1 c2 c3 w) := by
  have r0 : w.cell? ⟨b, 0, none⟩ = some (.int .i64 c0) := (blk_cell h 0).trans rfl
  have r1 : w.cell? ⟨b, 1, none⟩ = some (.int .i64 c1) := (blk_cell h 1).trans rfl
  have r2 : w.cell? ⟨b, 2, none⟩ = some (.int .i64 c2) := (blk_cell h 2).trans rfl
  have r3 : w.cell? ⟨b, 3, none⟩ = some (.int .i64 c3) := (blk_cell h 3).trans rfl
  clear h
  go_enter Try.func30, Try.ntmps30
  go_wp2
  go_loopw [8] (fun i wx => ∃ k : Nat, k ≤ 4 ∧ i = .int .i64 k ∧ Hid ((1 ≤ k → c0 = 0) ∧ (2 ≤ k → c1 = 0) ∧ (3 ≤ k → c2 = 0) ∧ (4 ≤ k → c3 = 0)) ∧ wx = w) (fun i _ => 4 - (intOf i).toNat)
  case atStart => exact ⟨0, by omega, rfl, hid ⟨fun h => by omega, fun h => by omega, fun h => by omega, fun h => by omega⟩, rfl⟩
  case round =>
    obtain ⟨k, hk, rfl, H, rfl⟩ := hrel
    obtain rfl | rfl | rfl | rfl | rfl : k = 0 ∨ k = 1 ∨ k = 2 ∨ k = 3 ∨ k = 4 := by omega
    · by_cases hz : c0 = 0
      · have hz' : (c0 == 0) = true := by rw [hz]; rfl
        have Hz := hid hz
        clear hz
        go_wp2
        exact ⟨⟨1, by omega, by first | rfl | trivial, hid ⟨fun h => Hz.out, fun h => by omega, fun h => by omega, fun h => by omega⟩, by first | rfl | trivial⟩, by simp [intOf]⟩
      · have hz' : (c0 == 0) = false := beq_eq_false_iff_ne.mpr hz
        have hr : orI c0 (orI c1 (orI c2 c3)) = c0 := by
          have h1 := H.out.1; have h2 := H.out.2.1; have h3 := H.out.2.2.1
          simp [orI]
          simp [hz]
        go_wp2
        go_ret
        exact ⟨by rw [hr]; rfl, rfl⟩
    · by_cases hz : c1 = 0
      · have hz' : (c1 == 0) = true := by rw [hz]; rfl
        have Hz := hid hz
        clear hz
        go_wp2
        exact ⟨⟨2, by omega, by first | rfl | trivial, hid ⟨fun h => H.out.1 (by omega), fun h => Hz.out, fun h => by omega, fun h => by omega⟩, by first | rfl | trivial⟩, by simp [intOf]⟩
      · have hz' : (c1 == 0) = false := beq_eq_false_iff_ne.mpr hz
        have hr : orI c0 (orI c1 (orI c2 c3)) = c1 := by
          have h1 := H.out.1; have h2 := H.out.2.1; have h3 := H.out.2.2.1
          simp [orI]
          simp_all
        go_wp2
        go_ret
        exact ⟨by rw [hr]; rfl, rfl⟩
    · by_cases hz : c2 = 0
      · have hz' : (c2 == 0) = true := by rw [hz]; rfl
        have Hz := hid hz
        clear hz
        go_wp2
        exact ⟨⟨3, by omega, by first | rfl | trivial, hid ⟨fun h => H.out.1 (by omega), fun h => H.out.2.1 (by omega), fun h => Hz.out, fun h => by omega⟩, by first | rfl | trivial⟩, by simp [intOf]⟩
      · have hz' : (c2 == 0) = false := beq_eq_false_iff_ne.mpr hz
        have hr : orI c0 (orI c1 (orI c2 c3)) = c2 := by
          have h1 := H.out.1; have h2 := H.out.2.1; have h3 := H.out.2.2.1
          simp [orI]
          simp_all
        go_wp2
        go_ret
        exact ⟨by rw [hr]; rfl, rfl⟩
    · by_cases hz : c3 = 0
      · have hz' : (c3 == 0) = true := by rw [hz]; rfl
        have Hz := hid hz
        clear hz
        go_wp2
        exact ⟨⟨4, by omega, by first | rfl | trivial, hid ⟨fun h => H.out.1 (by omega), fun h => H.out.2.1 (by omega), fun h => H.out.2.2.1 (by omega), fun h => Hz.out⟩, by first | rfl | trivial⟩, by simp [intOf]⟩
      · have hz' : (c3 == 0) = false := beq_eq_false_iff_ne.mpr hz
        have hr : orI c0 (orI c1 (orI c2 c3)) = c3 := by
          have h1 := H.out.1; have h2 := H.out.2.1; have h3 := H.out.2.2.1
          simp [orI]
          simp_all
        go_wp2
        go_ret
        exact ⟨by rw [hr]; rfl, rfl⟩
    · have hr : orI c0 (orI c1 (orI c2 c3)) = 0 := by
        obtain ⟨h1, h2, h3, h4⟩ := H.out
        rw [h1 (by omega), h2 (by omega), h3 (by omega), h4 (by omega)]
        rfl
      go_wp2
      go_ret
      exact ⟨by rw [hr]; rfl, rfl⟩

set_option maxHeartbeats 1000000 in
set_option maxRecDepth 100000 in
theorem compare_any (x y : V) (w : World) : Calls Try.prog 17 #[x.agg, y.agg] w fun e w' => e = .returned (.int .i64 (cmpV x y)) ∧ Laid w w' := by
  unfold cmpV
  go_enter Try.func17, Try.ntmps17
  go_upto_region 1 with fail
  have h1 := (heap_alloc2_old w (.cells #[.int .i64 x.kind, .int .i64 x.time, .int .i64 x.txn, .int .i64 x.op, .int .i64 x.wit, .string x.key, .bool x.want, .string x.exp, .bool x.got, .string x.obs, .int .i64 x.frm, .int .i64 x.to] 30) (.cells #[.int .i64 y.kind, .int .i64 y.time, .int .i64 y.txn, .int .i64 y.op, .int .i64 y.wit, .string y.key, .bool y.want, .string y.exp, .bool y.got, .string y.obs, .int .i64 y.frm, .int .i64 y.to] 30))
  have h2 := (heap_alloc2_new w (.cells #[.int .i64 x.kind, .int .i64 x.time, .int .i64 x.txn, .int .i64 x.op, .int .i64 x.wit, .string x.key, .bool x.want, .string x.exp, .bool x.got, .string x.obs, .int .i64 x.frm, .int .i64 x.to] 30) (.cells #[.int .i64 y.kind, .int .i64 y.time, .int .i64 y.txn, .int .i64 y.op, .int .i64 y.wit, .string y.key, .bool y.want, .string y.exp, .bool y.got, .string y.obs, .int .i64 y.frm, .int .i64 y.to] 30))
  have hb : Laid w ((w.alloc (.cells #[.int .i64 x.kind, .int .i64 x.time, .int .i64 x.txn, .int .i64 x.op, .int .i64 x.wit, .string x.key, .bool x.want, .string x.exp, .bool x.got, .string x.obs, .int .i64 x.frm, .int .i64 x.to] 30)).alloc (.cells #[.int .i64 y.kind, .int .i64 y.time, .int .i64 y.txn, .int .i64 y.op, .int .i64 y.wit, .string y.key, .bool y.want, .string y.exp, .bool y.got, .string y.obs, .int .i64 y.frm, .int .i64 y.to] 30)) := ((Laid.refl _).alloc _).alloc _
  generalize (w.alloc (.cells #[.int .i64 x.kind, .int .i64 x.time, .int .i64 x.txn, .int .i64 x.op, .int .i64 x.wit, .string x.key, .bool x.want, .string x.exp, .bool x.got, .string x.obs, .int .i64 x.frm, .int .i64 x.to] 30)).alloc (.cells #[.int .i64 y.kind, .int .i64 y.time, .int .i64 y.txn, .int .i64 y.op, .int .i64 y.wit, .string y.key, .bool y.want, .string y.exp, .bool y.got, .string y.obs, .int .i64 y.frm, .int .i64 y.to] 30) = w2 at *
  generalize w.heap.size = bx at *
  have x0 : w2.cell? ⟨bx, 0, none⟩ = some (.int .i64 x.kind) := (blk_cell h1 0).trans rfl
  have x1 : w2.cell? ⟨bx, 1, none⟩ = some (.int .i64 x.time) := (blk_cell h1 1).trans rfl
  have x2 : w2.cell? ⟨bx, 2, none⟩ = some (.int .i64 x.txn) := (blk_cell h1 2).trans rfl
  have x3 : w2.cell? ⟨bx, 3, none⟩ = some (.int .i64 x.op) := (blk_cell h1 3).trans rfl
  have y0 : w2.cell? ⟨bx + 1, 0, none⟩ = some (.int .i64 y.kind) := (blk_cell h2 0).trans rfl
  have y1 : w2.cell? ⟨bx + 1, 1, none⟩ = some (.int .i64 y.time) := (blk_cell h2 1).trans rfl
  have y2 : w2.cell? ⟨bx + 1, 2, none⟩ = some (.int .i64 y.txn) := (blk_cell h2 2).trans rfl
  have y3 : w2.cell? ⟨bx + 1, 3, none⟩ = some (.int .i64 y.op) := (blk_cell h2 3).trans rfl
  clear h1 h2
  refine wp_region_still_tail 20 (by kernel_rfl) (by kernel_rfl) ?_
  simp only [List.take_succ_cons, List.take_zero, List.drop_succ_cons, List.drop_zero]
  iterate 4
    still_step
    still_step
    still_step
    still_step
    still_call (cmp_any _ _ _)
  refine wpStill_nil ?_
  clear x0 x1 x2 x3 y0 y1 y2 y3
  change wpList _ _ _ _ _ w2.drew
  have hb' := hb.drew
  generalize w2.drew = w3 at *
  clear hb
  go_wp2_with fail
  refine (or_any _ _ _ _ _ _ (heap_alloc_new w3 _)).mono ?_
  rintro e w' ⟨rfl, rfl⟩
  go_wp2_with fail
  go_ret
  exact ⟨rfl, hb'.alloc _⟩

/-- p comes behind q. -/
def behindB (p q : Pt) : Bool := decide (0 < cmpV p.v q.v) || (cmpV p.v q.v == 0 && decide (q.num < p.num))
set_option maxHeartbeats 1000000 in
set_option maxRecDepth 100000 in
theorem behind_any (p q : Pt) (w : World) : Calls Try.prog 25 #[p.agg, q.agg] w fun e w' => e = .returned (.bool (behindB p q)) ∧ Laid w w' := by
  have c0 : ∀ W : World, Calls Try.prog 17 #[p.v.agg, q.v.agg] W fun e w' => e = .returned (.int .i64 (cmpV p.v q.v)) ∧ Laid W w' := fun W => compare_any p.v q.v W
  have hB : behindB p q = (decide (0 < cmpV p.v q.v) || (cmpV p.v q.v == 0 && decide (q.num < p.num))) := rfl
  generalize behindB p q = R at *
  generalize cmpV p.v q.v = c at *
  have C0 := hid c0
  have HB := hid hB
  clear c0 hB
  go_enter Try.func25, Try.ntmps25
  go_wp2_with fail
  refine (C0.out _).mono ?_
  rintro e w1 ⟨rfl, hb1⟩
  have h1 := (hb1.below.block w.heap.size (by simp; omega)).trans ((heap_alloc2_old w (.cells #[.int .i64 p.v.kind, .int .i64 p.v.time, .int .i64 p.v.txn, .int .i64 p.v.op, .int .i64 p.v.wit, .string p.v.key, .bool p.v.want, .string p.v.exp, .bool p.v.got, .string p.v.obs, .int .i64 p.v.frm, .int .i64 p.v.to, .int .i64 p.num] 55) (.cells #[.int .i64 q.v.kind, .int .i64 q.v.time, .int .i64 q.v.txn, .int .i64 q.v.op, .int .i64 q.v.wit, .string q.v.key, .bool q.v.want, .string q.v.exp, .bool q.v.got, .string q.v.obs, .int .i64 q.v.frm, .int .i64 q.v.to, .int .i64 q.num] 55)))
  have h2 := (hb1.below.block (w.heap.size + 1) (by simp)).trans ((heap_alloc2_new w (.cells #[.int .i64 p.v.kind, .int .i64 p.v.time, .int .i64 p.v.txn, .int .i64 p.v.op, .int .i64 p.v.wit, .string p.v.key, .bool p.v.want, .string p.v.exp, .bool p.v.got, .string p.v.obs, .int .i64 p.v.frm, .int .i64 p.v.to, .int .i64 p.num] 55) (.cells #[.int .i64 q.v.kind, .int .i64 q.v.time, .int .i64 q.v.txn, .int .i64 q.v.op, .int .i64 q.v.wit, .string q.v.key, .bool q.v.want, .string q.v.exp, .bool q.v.got, .string q.v.obs, .int .i64 q.v.frm, .int .i64 q.v.to, .int .i64 q.num] 55)))
  have hb : Laid w w1 := (((Laid.refl _).alloc _).alloc _).trans hb1
  have y0 : w1.cell? ⟨w.heap.size, 12, none⟩ = some (.int .i64 p.num) := (blk_cell h1 12).trans rfl
  have y1 : w1.cell? ⟨w.heap.size + 1, 12, none⟩ = some (.int .i64 q.num) := (blk_cell h2 12).trans rfl
  clear h1 h2 hb1
  by_cases hc : 0 < c
  · have d0 : decide (0 < c) = true := decide_eq_true hc
    go_wp2_with fail
    go_ret
    exact ⟨by rw [HB.out]; simp [hc], hb⟩
  · have d0 : decide (0 < c) = false := decide_eq_false hc
    by_cases hz : c = 0
    · have d1 : (c == 0) = true := by rw [hz]; rfl
      go_wp2_with fail
      go_ret
      exact ⟨by rw [HB.out]; simp [hz], hb⟩
    · have d1 : (c == 0) = false := beq_eq_false_iff_ne.mpr hz
      go_wp2_with fail
      go_ret
      exact ⟨by rw [HB.out]; simp [hz, hc], hb⟩
end Go.Proofs.Ytgimpkbknaopcaa
