/- The walk of ViolPlays. No statement is proved here. -/
import Derived.Test.YtgimpkbknaopcaaPlA
set_option linter.unusedVariables false
set_option linter.unusedSimpArgs false
namespace Go.Proofs.Ytgimpkbknaopcaa
open Go.RowKit

theorem own_vin2 {w : World} {v : Value} {l : List V} (h : OwnV w v l) : ∃ a cap, v = .slice a l.length cap ∧ VIn w a l ∧ l.length ≤ cap ∧ (a = none → l = []) := by
  rcases h.2 with ⟨rfl, h0⟩ | ⟨g, c, cur, rfl, k0, hg, hle, rest⟩
  · have hz := List.eq_nil_of_length_eq_zero h0
    exact ⟨none, 0, by rw [h0], fun h => absurd hz h, by omega, fun _ => hz⟩
  · obtain ⟨a', c', e, hv⟩ := own_vin h
    cases e
    exact ⟨_, _, rfl, hv, hle, fun h => by cases h⟩

set_option maxHeartbeats 16000000 in
set_option maxRecDepth 100000 in
theorem vplays_walk (n : Int) (a : Option Addr) (cap : Nat) (l : List (Int × V)) (w : World) (hin : OIn w a l) (hlen : l.length ≤ 1172812402960) :
    Calls Try.prog 3 #[.int .i64 n, .slice a l.length cap] w fun e w' => e = .returned (.bool true) ∧ Below w.heap.size w w' := by
  have Hin := hid hin
  clear hin
  obtain ⟨len, hlen0⟩ : ∃ len, len = l.length := ⟨_, rfl⟩
  rw [← hlen0] at hlen ⊢
  have HL := hid hlen0
  clear hlen0
  by_cases hq0 : n < 0
  · go_enter Try.func3, Try.ntmps3
    go_wp2_with fail
    refine (anchor_any _).mono ?_
    rintro e w1 ⟨rfl, hb1⟩
    go_wp2_with fail
    refine (new_bad n _ (.inl hq0)).mono ?_
    rintro e w2 ⟨rfl, rfl⟩
    go_wp2_with fail
    go_ret
    exact ⟨rfl, hb1⟩
  by_cases hq1 : 10000 < n
  · go_enter Try.func3, Try.ntmps3
    go_wp2_with fail
    refine (anchor_any _).mono ?_
    rintro e w1 ⟨rfl, hb1⟩
    go_wp2_with fail
    refine (new_bad n _ (.inr hq1)).mono ?_
    rintro e w2 ⟨rfl, rfl⟩
    go_wp2_with fail
    go_ret
    exact ⟨rfl, hb1⟩
  obtain ⟨N, rfl⟩ := Int.eq_ofNat_of_zero_le (show 0 ≤ n by omega)
  have hN2 : (N : Int) ≤ 10000 := by omega
  go_enter Try.func3, Try.ntmps3
  go_wp2_with fail
  refine (anchor_any _).mono ?_
  rintro e w1 ⟨rfl, hb1⟩
  go_wp2_with fail
  refine (new_good (N : Int) _ (by omega) (by omega)).mono ?_
  rintro e w2 ⟨t, rfl, hT, hb2⟩
  have P0 := hid (pl_new hT hb1.size)
  have hbe := hid (hb1.trans (hb2.mono hb1.size))
  clear hT hb1 hb2 hq0 hq1
  go_wp2_with fail
  go_loopg [7, 39] len (fun gh s7 s39 wr => ∃ (k : Nat) (hv : Value) (all row : List Pt), k ≤ len ∧ gh = len - k ∧ s39 = .int .i64 k ∧ Hid (Pl w.heap.size wr t N hv s7 all row) ∧ Hid (Below w.heap.size w wr) ∧ all.length ≤ k)
  case atStart => exact ⟨0, _, [], [], Nat.zero_le _, by omega, rfl, P0, hbe, Nat.le_refl _⟩
  case round =>
    clear P0 hbe
    obtain ⟨k, hv, all, row, hk, rfl, rfl, P, hbel, hak⟩ := hrel
    by_cases hlt : k < len
    · have hne : l ≠ [] := by
        intro h
        have := HL.out
        rw [h] at this
        simp at this
        omega
      have hil : k < l.length := by have := HL.out; omega
      obtain ⟨b, off, rfl, hbl, hc⟩ := (Hin.out.below hbel.out) hne
      have hx := hc k hil
      clear hc hne
      generalize l[k] = o at *
      obtain ⟨kd, v⟩ := o
      have x0 : wr.cell? ⟨b, off + k * 13, none⟩ = some (.int .i64 kd) := hx 0 (by omega)
      have x1 : wr.cell? ⟨b, off + k * 13 + 1, none⟩ = some (.int .i64 v.kind) := hx 1 (by omega)
      have x2 : wr.cell? ⟨b, off + k * 13 + 2, none⟩ = some (.int .i64 v.time) := hx 2 (by omega)
      have x3 : wr.cell? ⟨b, off + k * 13 + 3, none⟩ = some (.int .i64 v.txn) := hx 3 (by omega)
      have x4 : wr.cell? ⟨b, off + k * 13 + 4, none⟩ = some (.int .i64 v.op) := hx 4 (by omega)
      have x5 : wr.cell? ⟨b, off + k * 13 + 5, none⟩ = some (.int .i64 v.wit) := hx 5 (by omega)
      have x6 : wr.cell? ⟨b, off + k * 13 + 6, none⟩ = some (.string v.key) := hx 6 (by omega)
      have x7 : wr.cell? ⟨b, off + k * 13 + 7, none⟩ = some (.bool v.want) := hx 7 (by omega)
      have x8 : wr.cell? ⟨b, off + k * 13 + 8, none⟩ = some (.string v.exp) := hx 8 (by omega)
      have x9 : wr.cell? ⟨b, off + k * 13 + 9, none⟩ = some (.bool v.got) := hx 9 (by omega)
      have x10 : wr.cell? ⟨b, off + k * 13 + 10, none⟩ = some (.string v.obs) := hx 10 (by omega)
      have x11 : wr.cell? ⟨b, off + k * 13 + 11, none⟩ = some (.int .i64 v.frm) := hx 11 (by omega)
      have x12 : wr.cell? ⟨b, off + k * 13 + 12, none⟩ = some (.int .i64 v.to) := hx 12 (by omega)
      have hk64 : (k : Int) < (len : Int) := by omega
      have hk63 : (k : Int) + 1 ≤ 9223372036854775807 := by omega
      have hal := (Below.refl _ wr).alloc (Nat.le_refl _) (.cells #[.int .i64 kd, .int .i64 v.kind, .int .i64 v.time, .int .i64 v.txn, .int .i64 v.op, .int .i64 v.wit, .string v.key, .bool v.want, .string v.exp, .bool v.got, .string v.obs, .int .i64 v.frm, .int .i64 v.to] 32)
      have hnew : Hid ((wr.alloc (.cells #[.int .i64 kd, .int .i64 v.kind, .int .i64 v.time, .int .i64 v.txn, .int .i64 v.op, .int .i64 v.wit, .string v.key, .bool v.want, .string v.exp, .bool v.got, .string v.obs, .int .i64 v.frm, .int .i64 v.to] 32)).heap[wr.heap.size]? = some (.cells #[.int .i64 kd, .int .i64 v.kind, .int .i64 v.time, .int .i64 v.txn, .int .i64 v.op, .int .i64 v.wit, .string v.key, .bool v.want, .string v.exp, .bool v.got, .string v.obs, .int .i64 v.frm, .int .i64 v.to] 32 (0, 0))) := hid (heap_alloc_new wr _)
      have Pa := hid (P.out.below hal)
      have hba := hid (hbel.out.trans (hal.mono hbel.out.size))
      have hbs : w.heap.size ≤ wr.heap.size := hbel.out.size
      have hbt : wr.heap.size ≠ t := by have := blk_lt P.out.tp.ht; omega
      have hbh : hv.ownBlock ≠ some wr.heap.size := fun e => by have := own_lt P.out.tp.own _ e; omega
      clear hx hal P hbel
      go_upto_region 12 with fail
      clear x0 x1 x2 x3 x4 x5 x6 x7 x8 x9 x10 x11 x12
      generalize hwa : wr.alloc (.cells #[.int .i64 kd, .int .i64 v.kind, .int .i64 v.time, .int .i64 v.txn, .int .i64 v.op, .int .i64 v.wit, .string v.key, .bool v.want, .string v.exp, .bool v.got, .string v.obs, .int .i64 v.frm, .int .i64 v.to] 32) = wa at *
      generalize wr.heap.size = bo at *
      clear hwa
      have x0 : wa.cell? ⟨bo, 0, none⟩ = some (.int .i64 kd) := (blk_cell hnew.out 0).trans rfl
      have x1 : wa.cell? ⟨bo, 1, none⟩ = some (.int .i64 v.kind) := (blk_cell hnew.out 1).trans rfl
      have x2 : wa.cell? ⟨bo, 2, none⟩ = some (.int .i64 v.time) := (blk_cell hnew.out 2).trans rfl
      have x3 : wa.cell? ⟨bo, 3, none⟩ = some (.int .i64 v.txn) := (blk_cell hnew.out 3).trans rfl
      have x4 : wa.cell? ⟨bo, 4, none⟩ = some (.int .i64 v.op) := (blk_cell hnew.out 4).trans rfl
      have x5 : wa.cell? ⟨bo, 5, none⟩ = some (.int .i64 v.wit) := (blk_cell hnew.out 5).trans rfl
      have x6 : wa.cell? ⟨bo, 6, none⟩ = some (.string v.key) := (blk_cell hnew.out 6).trans rfl
      have x7 : wa.cell? ⟨bo, 7, none⟩ = some (.bool v.want) := (blk_cell hnew.out 7).trans rfl
      have x8 : wa.cell? ⟨bo, 8, none⟩ = some (.string v.exp) := (blk_cell hnew.out 8).trans rfl
      have x9 : wa.cell? ⟨bo, 9, none⟩ = some (.bool v.got) := (blk_cell hnew.out 9).trans rfl
      have x10 : wa.cell? ⟨bo, 10, none⟩ = some (.string v.obs) := (blk_cell hnew.out 10).trans rfl
      have x11 : wa.cell? ⟨bo, 11, none⟩ = some (.int .i64 v.frm) := (blk_cell hnew.out 11).trans rfl
      have x12 : wa.cell? ⟨bo, 12, none⟩ = some (.int .i64 v.to) := (blk_cell hnew.out 12).trans rfl
      by_cases h1 : kd = 1
      · have b1 : (kd == 1) = true := by rw [h1]; rfl
        clear h1
        go_wp2_with fail
        refine (put_any (Rest wa t hv) t (N : Int) (all.length : Int) hv row v wa Pa.out.tpk (by omega) (by omega) (by have := Pa.out.len; omega) (by omega) (by omega) (rest_fit _ _ _)).mono ?_
        clear x0 x1 x2 x3 x4 x5 x6 x7 x8 x9 x10 x11 x12
        rintro e w4 (⟨hval, rfl, hb4⟩ | ⟨hval, rfl, hv', hT4, hb4⟩)
        · have n4 : w4.heap[bo]? = _ := (hb4.block bo (blk_lt hnew.out)).trans hnew.out
          have y1 : w4.cell? ⟨bo, 1, none⟩ = some (.int .i64 v.kind) := (blk_cell n4 1).trans rfl
          have y2 : w4.cell? ⟨bo, 2, none⟩ = some (.int .i64 v.time) := (blk_cell n4 2).trans rfl
          have y3 : w4.cell? ⟨bo, 3, none⟩ = some (.int .i64 v.txn) := (blk_cell n4 3).trans rfl
          have y4 : w4.cell? ⟨bo, 4, none⟩ = some (.int .i64 v.op) := (blk_cell n4 4).trans rfl
          have y5 : w4.cell? ⟨bo, 5, none⟩ = some (.int .i64 v.wit) := (blk_cell n4 5).trans rfl
          have y6 : w4.cell? ⟨bo, 6, none⟩ = some (.string v.key) := (blk_cell n4 6).trans rfl
          have y7 : w4.cell? ⟨bo, 7, none⟩ = some (.bool v.want) := (blk_cell n4 7).trans rfl
          have y8 : w4.cell? ⟨bo, 8, none⟩ = some (.string v.exp) := (blk_cell n4 8).trans rfl
          have y9 : w4.cell? ⟨bo, 9, none⟩ = some (.bool v.got) := (blk_cell n4 9).trans rfl
          have y10 : w4.cell? ⟨bo, 10, none⟩ = some (.string v.obs) := (blk_cell n4 10).trans rfl
          have y11 : w4.cell? ⟨bo, 11, none⟩ = some (.int .i64 v.frm) := (blk_cell n4 11).trans rfl
          have y12 : w4.cell? ⟨bo, 12, none⟩ = some (.int .i64 v.to) := (blk_cell n4 12).trans rfl
          have P4 := hid (Pa.out.below hb4)
          have hbe4 := hid (hba.out.trans (hb4.mono hba.out.size))
          clear hb4 n4 hnew Pa hba
          have hrv := rvalid_any v w4
          rw [hval] at hrv
          go_wp2_with fail
          refine hrv.mono ?_
          rintro e w5 ⟨rfl, hb5⟩
          have P5 := hid (P4.out.below hb5)
          have hbe5 := hid (hbe4.out.trans (hb5.mono hbe4.out.size))
          clear y1 y2 y3 y4 y5 y6 y7 y8 y9 y10 y11 y12
          clear hb5 P4 hbe4 hrv
          go_wp2_with fail
          go_roundg (len - (k + 1))
          case measure => omega
          case rel => exact ⟨k + 1, hv, all, row, by omega, rfl, by go_num, P5, hbe5, by omega⟩
        · have n4 : w4.heap[bo]? = _ := (hb4.block bo ⟨blk_lt hnew.out, hbt, hbh⟩).trans hnew.out
          have y1 : w4.cell? ⟨bo, 1, none⟩ = some (.int .i64 v.kind) := (blk_cell n4 1).trans rfl
          have y2 : w4.cell? ⟨bo, 2, none⟩ = some (.int .i64 v.time) := (blk_cell n4 2).trans rfl
          have y3 : w4.cell? ⟨bo, 3, none⟩ = some (.int .i64 v.txn) := (blk_cell n4 3).trans rfl
          have y4 : w4.cell? ⟨bo, 4, none⟩ = some (.int .i64 v.op) := (blk_cell n4 4).trans rfl
          have y5 : w4.cell? ⟨bo, 5, none⟩ = some (.int .i64 v.wit) := (blk_cell n4 5).trans rfl
          have y6 : w4.cell? ⟨bo, 6, none⟩ = some (.string v.key) := (blk_cell n4 6).trans rfl
          have y7 : w4.cell? ⟨bo, 7, none⟩ = some (.bool v.want) := (blk_cell n4 7).trans rfl
          have y8 : w4.cell? ⟨bo, 8, none⟩ = some (.string v.exp) := (blk_cell n4 8).trans rfl
          have y9 : w4.cell? ⟨bo, 9, none⟩ = some (.bool v.got) := (blk_cell n4 9).trans rfl
          have y10 : w4.cell? ⟨bo, 10, none⟩ = some (.string v.obs) := (blk_cell n4 10).trans rfl
          have y11 : w4.cell? ⟨bo, 11, none⟩ = some (.int .i64 v.frm) := (blk_cell n4 11).trans rfl
          have y12 : w4.cell? ⟨bo, 12, none⟩ = some (.int .i64 v.to) := (blk_cell n4 12).trans rfl
          have hrv := rvalid_any v w4
          rw [hval] at hrv
          have T4 := hid hT4
          have B4 := hid hb4
          have N4 := hid n4
          clear hT4 hb4 n4 hnew
          go_wp2_with fail
          refine hrv.mono ?_
          rintro e w5 ⟨rfl, hb5⟩
          clear y1 y2 y3 y4 y5 y6 y7 y8 y9 y10 y11 y12
          clear hrv
          have n5 : w5.heap[bo]? = _ := (hb5.block bo (blk_lt N4.out)).trans N4.out
          have z1 : w5.cell? ⟨bo, 1, none⟩ = some (.int .i64 v.kind) := (blk_cell n5 1).trans rfl
          have z2 : w5.cell? ⟨bo, 2, none⟩ = some (.int .i64 v.time) := (blk_cell n5 2).trans rfl
          have z3 : w5.cell? ⟨bo, 3, none⟩ = some (.int .i64 v.txn) := (blk_cell n5 3).trans rfl
          have z4 : w5.cell? ⟨bo, 4, none⟩ = some (.int .i64 v.op) := (blk_cell n5 4).trans rfl
          have z5 : w5.cell? ⟨bo, 5, none⟩ = some (.int .i64 v.wit) := (blk_cell n5 5).trans rfl
          have z6 : w5.cell? ⟨bo, 6, none⟩ = some (.string v.key) := (blk_cell n5 6).trans rfl
          have z7 : w5.cell? ⟨bo, 7, none⟩ = some (.bool v.want) := (blk_cell n5 7).trans rfl
          have z8 : w5.cell? ⟨bo, 8, none⟩ = some (.string v.exp) := (blk_cell n5 8).trans rfl
          have z9 : w5.cell? ⟨bo, 9, none⟩ = some (.bool v.got) := (blk_cell n5 9).trans rfl
          have z10 : w5.cell? ⟨bo, 10, none⟩ = some (.string v.obs) := (blk_cell n5 10).trans rfl
          have z11 : w5.cell? ⟨bo, 11, none⟩ = some (.int .i64 v.frm) := (blk_cell n5 11).trans rfl
          have z12 : w5.cell? ⟨bo, 12, none⟩ = some (.int .i64 v.to) := (blk_cell n5 12).trans rfl
          have hal2 := (Below.refl _ w5).alloc (Nat.le_refl _) (.cells #[.int .i64 v.kind, .int .i64 v.time, .int .i64 v.txn, .int .i64 v.op, .int .i64 v.wit, .string v.key, .bool v.want, .string v.exp, .bool v.got, .string v.obs, .int .i64 v.frm, .int .i64 v.to] 30)
          have hb6 := hb5.trans (hal2.mono hb5.size)
          have ho6 := ownV_below (Pa.out.ownV B4.out) hb6
          obtain ⟨va', w7, hrun, hown, hgr, hdis⟩ := app_viol (w5.alloc (.cells #[.int .i64 v.kind, .int .i64 v.time, .int .i64 v.txn, .int .i64 v.op, .int .i64 v.wit, .string v.key, .bool v.want, .string v.exp, .bool v.got, .string v.obs, .int .i64 v.frm, .int .i64 v.to] 30)) 28 u7 _ v ho6 w5.heap.size (heap_alloc_new _ _) (by rw [List.length_map]; omega)
          obtain ⟨q1, q2⟩ := Pa.out.put hba.out.size T4.out B4.out hb6 hown hgr hdis
          have Q1 := hid q1
          have Q2 := hid (hba.out.trans q2)
          clear q1 q2 hown hgr hdis ho6 hb6 hal2 hb5 n5 T4 B4 N4 Pa hba
          go_wp2_with (at_builtin; refine wpList_append_run _ rfl (.tmp 65) (.tmp 68) 28 28 rfl _ _ rfl rfl hrun ?_)
          go_roundg (len - (k + 1))
          case measure => omega
          case rel => exact ⟨k + 1, hv', _, _, by omega, rfl, by go_num, Q1, Q2, by simp; omega⟩
      have b1 : (kd == 1) = false := beq_eq_false_iff_ne.mpr h1
      by_cases h2 : kd = 2
      · have b2 : (kd == 2) = true := by rw [h2]; rfl
        clear h1 h2 hnew
        have P := Pa
        clear Pa
        go_wp2_with fail
        clear x0 x1 x2 x3 x4 x5 x6 x7 x8 x9 x10 x11 x12
        refine (list_any _ t _ _ _ _ _ P.out.tp (by have := P.out.len; omega)).mono ?_
        rintro e w5 ⟨vl, d, rfl, hp, hs, ho, _, hb5⟩
        have P5 := hid (P.out.below hb5)
        have hbe5 := hid (hba.out.trans (hb5.mono hba.out.size))
        have hL := P.out.list hp hs
        rw [hL] at ho
        clear hp hs hL hb5 P
        obtain ⟨a5, c5, rfl, hv5⟩ := own_vin ho
        have V5 := hid hv5
        clear hv5 ho
        obtain ⟨a7, c7, e7, hv7, hc7, hn7⟩ := own_vin2 P5.out.own
        have e7' := e7
        rw [List.length_map] at e7'
        subst e7'
        have hfr := first_ref (all.map (·.v)) a7 c7 N w5 hc7 (by rw [List.length_map]; omega) hv7 hn7 (by omega)
        rw [List.length_map] at hfr
        unfold FirstPost at hfr
        clear hv7 hc7 hn7 e7
        have hLl : ((sortV (all.map (·.v))).take N).length ≤ 9000000000000 := by rw [List.length_take]; omega
        generalize (sortV (all.map (·.v))).take N = L at *
        have HF := hid hfr
        clear hfr
        go_wp2_with fail
        refine HF.out.mono ?_
        rintro e w6 ⟨a6, c6, rfl, hv6, hb6⟩
        have P6 := hid (P5.out.below hb6)
        have V5' := hid (V5.out.below hb6)
        have V6 := hid hv6
        have hbe6 := hid (hbe5.out.trans (hb6.mono hbe5.out.size))
        clear hv6 hb6 hbe5 P5 V5 HF
        go_wp2_with fail
        refine (same_eq a5 a6 c5 c6 L w6 V5'.out V6.out hLl).mono ?_
        rintro e w7 ⟨rfl, hb7⟩
        have P7 := hid (P6.out.below hb7)
        have hbe7 := hbe6.out.trans (hb7.mono hbe6.out.size)
        clear hb7 hbe6 P6 V5' V6 hLl
        go_wp2_with fail
        go_roundg (len - (k + 1))
        case measure => omega
        case rel => exact ⟨k + 1, hv, all, row, by omega, rfl, by go_num, P7, hid hbe7, by omega⟩
      have b2 : (kd == 2) = false := beq_eq_false_iff_ne.mpr h2
      by_cases h3 : kd = 3
      · have b3 : (kd == 3) = true := by rw [h3]; rfl
        clear h1 h2 h3 hnew
        obtain ⟨a7, c7, e7, hv7, hc7, hn7⟩ := own_vin2 Pa.out.own
        rw [List.length_map] at e7
        subst e7
        have hT := Pa.out.tp
        clear hv7 hc7 hn7
        go_wp2_with fail
        refine (total_any _ t _ _ _ _ _ hT).mono ?_
        clear x0 x1 x2 x3 x4 x5 x6 x7 x8 x9 x10 x11 x12
        rintro e w4 ⟨rfl, rfl⟩
        go_wp2_with fail
        go_roundg (len - (k + 1))
        case measure => omega
        case rel => exact ⟨k + 1, hv, all, row, by omega, rfl, by go_num, Pa, hba, by omega⟩
      have b3 : (kd == 3) = false := beq_eq_false_iff_ne.mpr h3
      clear h1 h2 h3 hnew
      go_wp2_with fail
      clear x0 x1 x2 x3 x4 x5 x6 x7 x8 x9 x10 x11 x12
      go_roundg (len - (k + 1))
      case measure => omega
      case rel => exact ⟨k + 1, hv, all, row, by omega, rfl, by go_num, Pa, hba, by omega⟩
    · have hkN : k = len := by omega
      subst hkN
      clear Hin HL
      obtain ⟨a7, c7, e7, hv7, hc7, hn7⟩ := own_vin2 P.out.own
      rw [List.length_map] at e7
      subst e7
      have hT := P.out.tp
      clear hv7 hc7 hn7
      go_wp2_with fail
      refine (total_any _ t _ _ _ _ _ hT).mono ?_
      rintro e w4 ⟨rfl, rfl⟩
      go_wp2_with fail
      refine (list_any _ t _ _ _ _ _ P.out.tp (by have := P.out.len; omega)).mono ?_
      rintro e w5 ⟨vl, d, rfl, hp, hs, ho, _, hb5⟩
      have P5 := hid (P.out.below hb5)
      have hbe5 := hid (hbel.out.trans (hb5.mono hbel.out.size))
      have hL := P.out.list hp hs
      rw [hL] at ho
      clear hp hs hL hb5 P
      obtain ⟨a5, c5, rfl, hv5⟩ := own_vin ho
      have V5 := hid hv5
      clear hv5 ho
      obtain ⟨a8, c8, e8, hv7, hc7, hn7⟩ := own_vin2 P5.out.own
      have e7 := e8
      rw [List.length_map] at e8
      cases e8
      have hfr := first_ref (all.map (·.v)) a7 c7 N w5 hc7 (by rw [List.length_map]; omega) hv7 hn7 (by omega)
      rw [List.length_map] at hfr
      unfold FirstPost at hfr
      clear hv7 hc7 hn7 e7
      have hLl : ((sortV (all.map (·.v))).take N).length ≤ 9000000000000 := by rw [List.length_take]; omega
      generalize (sortV (all.map (·.v))).take N = L at *
      have HF := hid hfr
      clear hfr
      go_wp2_with fail
      refine HF.out.mono ?_
      rintro e w6 ⟨a6, c6, rfl, hv6, hb6⟩
      have P6 := hid (P5.out.below hb6)
      have V5' := hid (V5.out.below hb6)
      have V6 := hid hv6
      have hbe6 := hid (hbe5.out.trans (hb6.mono hbe5.out.size))
      clear hv6 hb6 hbe5 P5 V5 HF
      go_wp2_with fail
      refine (same_eq a5 a6 c5 c6 L w6 V5'.out V6.out hLl).mono ?_
      rintro e w7 ⟨rfl, hb7⟩
      have P7 := hid (P6.out.below hb7)
      have hbe7 := hbe6.out.trans (hb7.mono hbe6.out.size)
      clear hb7 hbe6 P6 V5' V6 hLl
      go_wp2_with fail
      go_ret
      exact ⟨rfl, hbe7⟩
end Go.Proofs.Ytgimpkbknaopcaa
