/- The walk of StreamBroken. No statement is proved here. -/
import Derived.Test.YtkhejipcclpknaaUK
import Derived.Test.YtkhejipcclpknaaUL
set_option linter.unusedVariables false
set_option linter.unusedSimpArgs false
namespace Go.Proofs.Ytkhejipcclpknaa
open Go.RowKit

set_option maxHeartbeats 4000000 in
set_option maxRecDepth 100000 in
/-- A reader that is broken. -/
theorem read_stopped {w : World} {p g : Nat} {oc o : Option Nat} {R : Rd} (h : RdM w p g oc o R) (hf : R.fault ≠ 0) (m : Int) :
    Calls Try.prog 19 #[.pointer (some ⟨p, 0, none⟩), .int .i64 m] w fun e w' => e = .returned (.tuple #[.slice none 0 0, .int .i64 R.fault]) ∧ w' = w.drew := by
  have c6 : w.cell? ⟨p, 6, none⟩ = some (.int .i64 R.fault) := by
    obtain ⟨vc, v, e1, e2, h1, h2, h3⟩ := h.ex
    exact (blk_cell h1 6).trans rfl
  obtain ⟨f, hfe⟩ : ∃ f, f = R.fault := ⟨_, rfl⟩
  rw [← hfe] at c6 hf ⊢
  have b1 : (f == 0) = false := beq_eq_false_iff_ne.mpr hf
  have b2 : decide (f = 0) = false := decide_eq_false hf
  clear hf h hfe
  go_enter Try.func19, Try.ntmps19
  go_upto_region 2 with fail
  go_still (by kernel_rfl)
  go_wp2_with fail
  go_ret2
  exact ⟨rfl, rfl⟩
theorem field_cnt2 (a b c d : Int) (W : World) : (Instr.field 55 (.agg #[.int .i64 a, .int .i64 b, .int .i64 c, .int .i64 d]) 2).run Try.prog W = .ok (.int .i64 c) W := by kernel_rfl
set_option maxHeartbeats 8000000 in
set_option maxRecDepth 100000 in
theorem broken_out (b h : Int) (w : World) (hc : b < 0 ∨ 5 < b ∨ h < 0 ∨ b * 16 < h) : Calls Try.prog 7 #[.int .i64 b, .int .i64 h] w fun e w' => e = .returned (.bool true) ∧ Below w.heap.size w w' := by
  have HA := hid (anchor_any w)
  by_cases h1 : b < 0
  · clear hc
    go_enter Try.func7, Try.ntmps7
    go_wp2_with (go_at_call 10; refine HA.out.mono ?_; rintro e w1 ⟨rfl, hb1⟩)
    go_ret
    exact ⟨rfl, hb1⟩
  by_cases h2 : 5 < b
  · clear hc
    go_enter Try.func7, Try.ntmps7
    go_wp2_with (go_at_call 10; refine HA.out.mono ?_; rintro e w1 ⟨rfl, hb1⟩)
    go_ret
    exact ⟨rfl, hb1⟩
  by_cases h3 : h < 0
  · clear hc
    go_enter Try.func7, Try.ntmps7
    go_wp2_with (go_at_call 10; refine HA.out.mono ?_; rintro e w1 ⟨rfl, hb1⟩)
    go_ret
    exact ⟨rfl, hb1⟩
  have h4 : b * 16 < h := by omega
  have hw : IntKind.i64.wrap (b * 16) = b * 16 := wrap_id (by omega) (by omega)
  clear hc
  go_enter Try.func7, Try.ntmps7
  go_wp2_with (go_at_call 10; refine HA.out.mono ?_; rintro e w1 ⟨rfl, hb1⟩)
  go_ret
  exact ⟨rfl, hb1⟩
set_option maxHeartbeats 8000000 in
set_option maxRecDepth 100000 in
theorem broken_in (b h : Nat) (w : World) (hb5 : b ≤ 5) (hh : h ≤ b * 16) : Calls Try.prog 7 #[.int .i64 (b : Int), .int .i64 (h : Int)] w fun e w' => e = .returned (.bool true) ∧ Below w.heap.size w w' := by
  have HA := hid (anchor_any w)
  have K1 := bOk_all1 b (by omega) h (by omega) hh
  have K2 := bOk_all2 b (by omega) h (by omega) hh
  unfold bOk1 at K1
  unfold bOk2 at K2
  simp only [Bool.and_eq_true, decide_eq_true_eq] at K1 K2
  obtain ⟨⟨⟨⟨⟨⟨⟨⟨a1, a2⟩, a3⟩, a4⟩, a5⟩, a6⟩, a7⟩, a8⟩, a9⟩ := K1
  obtain ⟨⟨⟨⟨⟨⟨⟨b1, b2⟩, b3⟩, b4⟩, b5⟩, b6⟩, b7⟩, b8⟩ := K2
  have A1 := hid a1
  have A2 := hid a2
  have A3 := hid a3
  have A4 := hid a4
  have A5 := hid a5
  have A6 := hid a6
  have A7 := hid a7
  have A8 := hid a8
  have A9 := hid a9
  have B1 := hid b1
  have B2 := hid b2
  have B3 := hid b3
  have B4 := hid b4
  have B5 := hid b5
  have B6 := hid b6
  have B7 := hid b7
  have B8 := hid b8
  clear a1 a2 a3 a4 a5 a6 a7 a8 a9 b1 b2 b3 b4 b5 b6 b7 b8
  obtain ⟨ti, hi, hz0, hz1, hz2⟩ := info_parts infoB
  have hmk0 : ∀ (sz : Nat), sz ≤ 200 → ∀ u : World, (Instr.makeSlice 22 (.int .i64 (sz : Int)) (.int .i64 (sz : Int))).run Try.prog u = .ok (.slice (some ⟨u.heap.size, 0, none⟩) sz sz) (u.alloc (.cells (madeCells #[.int .u8 0] sz) 5)) := fun sz hsz u => by
    have h := run_make (P := Try.prog) u 22 5 ti _ Try.underlying22 hi hz0 .i64 .i64 sz sz (by omega) (by omega) (by rw [hz2]; omega) (by omega)
    rw [hz1] at h
    simpa [Value.cells] using h
  obtain ⟨m, hm⟩ : ∃ m, m = 112 - h := ⟨_, rfl⟩
  have hk100 : ∀ u : World, (Instr.makeSlice 22 (.int .i64 100) (.int .i64 100)).run Try.prog u = .ok (.slice (some ⟨u.heap.size, 0, none⟩) 100 100) (u.alloc (.cells (madeCells #[.int .u8 0] 100) 5)) := hmk0 100 (by omega)
  have hkh := hmk0 h (by omega)
  have hkm := hmk0 m (by omega)
  have hwm : IntKind.i64.wrap (112 - (h : Int)) = (m : Int) := by
    rw [show 112 - (h : Int) = (m : Int) by omega]
    exact wrap_id (by omega) (by omega)
  have hw16 : IntKind.i64.wrap ((b : Int) * 16) = (b : Int) * 16 := wrap_id (by omega) (by omega)
  have hwb : IntKind.i64.wrap ((b : Int) + 1) = (b : Int) + 1 := wrap_id (by omega) (by omega)
  have n1 : ¬ (b : Int) < 0 := by omega
  have n2 : ¬ (5 : Int) < (b : Int) := by omega
  have n2' : ¬ 5 < b := by omega
  have n3 : ¬ (h : Int) < 0 := by omega
  have n4 : ¬ (b : Int) * 16 < (h : Int) := by omega
  have HBH := hid (And.intro hb5 (And.intro hh hm))
  clear hi hz0 hz1 hz2 hb5 hh hmk0 hm
  go_enter Try.func7, Try.ntmps7
  go_upto_region 6 with (go_at_call 10; refine HA.out.mono ?_; rintro e w0 ⟨rfl, hb0⟩)
  have HB0 := hid hb0
  clear n1 n2 n2' n3 n4 hb0
  have hal := (Below.refl _ w0).alloc (Nat.le_refl _) (.cells #[.int .i64 1, .int .i64 (b : Int), .int .i64 1, .int .i64 0, .int .i64 3, .int .i64 0, .int .i64 ((b : Int) + 1), .int .i64 0] 60)
  have X1 := heap_alloc_new w0 (.cells #[.int .i64 1, .int .i64 (b : Int), .int .i64 1, .int .i64 0, .int .i64 3, .int .i64 0, .int .i64 ((b : Int) + 1), .int .i64 0] 60)
  obtain ⟨w1, hw1⟩ : ∃ w1, w0.alloc (.cells #[.int .i64 1, .int .i64 (b : Int), .int .i64 1, .int .i64 0, .int .i64 3, .int .i64 0, .int .i64 ((b : Int) + 1), .int .i64 0] 60) = w1 := ⟨_, rfl⟩
  obtain ⟨fb, hfb⟩ : ∃ fb, fb = w0.heap.size := ⟨_, rfl⟩
  rw [hw1] at hal X1
  rw [← hfb] at X1
  rw [hw1, ← hfb]
  have HFA : Hid (FlAt w1 fb [⟨1, (b : Int), 1, 0⟩, ⟨3, 0, (b : Int) + 1, 0⟩]) := hid ⟨blk_lt X1, fun j u hj => by rw [blk_cell X1 j, ← Array.getElem?_toList]; exact hj⟩
  have HB1 := hid (HB0.out.trans (hal.mono HB0.out.size))
  clear hal X1 hw1 hfb
  have hal := (Below.refl _ w1).alloc (Nat.le_refl _) (.cells (madeCells #[.int .u8 0] 100) 5)
  have X2 := heap_alloc_new w1 (.cells (madeCells #[.int .u8 0] 100) 5)
  have HB2 := hid (HB1.out.trans (hal.mono HB1.out.size))
  have hnew := new_faults (w := w1.alloc (.cells (madeCells #[.int .u8 0] 100) 5)) (a := some ⟨w1.heap.size, 0, none⟩) (l := List.replicate 100 0) 16 8 (by omega) (by omega) (by omega) (by simp) (bytes_of X2 (cellsB_rep 100)) 100 (HFA.out.late HFA.out.1 hal) (by simp) (by simp) (by
    have hb5 := HBH.out.1
    intro f hf
    simp only [List.mem_cons, List.not_mem_nil, or_false] at hf
    rcases hf with rfl | rfl
    · exact ⟨by show (1 : Int) ≤ 1; omega, by show (1 : Int) ≤ 4; omega, by show (0 : Int) ≤ b; omega, by show (b : Int) ≤ 4194304; omega, by show (1 : Int) ≤ 1; omega, by show (1 : Int) ≤ 1099511627776; omega, by show (0 : Int) ≤ 0; omega, by show (0 : Int) ≤ (16 : Nat); omega⟩
    · exact ⟨by show (1 : Int) ≤ 3; omega, by show (3 : Int) ≤ 4; omega, by show (0 : Int) ≤ 0; omega, by show (0 : Int) ≤ 4194304; omega, by show (1 : Int) ≤ (b : Int) + 1; omega, by show (b : Int) + 1 ≤ 1099511627776; omega, by show (0 : Int) ≤ 0; omega, by show (0 : Int) ≤ (16 : Nat); omega⟩) 2
  rw [show (List.replicate 100 (0 : Int)).length = 100 by simp] at hnew
  have HNEW := hid hnew
  clear hal X2 hnew
  go_upto_region 7 with (go_at_call 11; refine HNEW.out.mono ?_; rintro e w3 ⟨d, rfl, hd3, hb3, hn3⟩)
  have HD3 : Hid (DvM w3 d (bD b)) := hid hd3
  have HB3 := hid (HB2.out.trans (hb3.mono HB2.out.size))
  have HN3 := hid (fun k hk => Nat.le_trans HB2.out.size (hn3 k hk))
  have HS := hid (space_any 8 w3 (by omega))
  clear hd3 hb3 hn3 HNEW hk100
  go_upto_region 10 with (go_at_call 12; refine HS.out.mono ?_; rintro e w4 ⟨s, os, rfl, hsp, hps, hos, hb4⟩)
  have HD4 := hid (HD3.out.below hb4)
  have HAP := hid (beside_new HD3.out hps hos)
  have HSP := hid hsp
  have HB4 := hid (HB3.out.trans (hb4.mono HB3.out.size))
  have HSN := hid (show ∀ k, sS s os k → w.heap.size ≤ k from fun k hk => Nat.le_trans HB3.out.size (by
    rcases hk with e | e
    · rw [e]; exact hps
    · exact hos k e))
  have HIN := hid (input_any HD4.out)
  clear hsp hps hos hb4 HS
  go_upto_region 13 with (first | (go_at_call 18; refine HIN.out.mono ?_; rintro e w5 ⟨p, rfl, hr5, hp5, hb5⟩; have HR5 := hid hr5; have HP5 := hid hp5; have HB45 := hid hb5; have HCR := hid (create_any (HD4.out.below hb5) s); clear hr5 hp5 hb5) | (go_at_call 13; refine HCR.out.mono ?_; rintro e w6 ⟨pw, rfl, hw6, hpw, hb6⟩))
  have hbr : (⟨(bD b).unit, none, (bD b).inp.length, 0, -1, [], 0⟩ : Rd) = bR := by unfold bD bR; simp
  have HR6 : Hid (Rh w6 p d none none bR (bD b)) := hid (by
    have h1 := HR5.out.below hb6
    rw [hbr] at h1
    refine ⟨h1, (HD4.out.below HB45.out).below hb6, fun k hk hd => ?_⟩
    have := HD4.out.lt k hd
    have := HP5.out
    rcases hk with e | e | e
    · omega
    · cases e
    · cases e)
  have HW6 : Hid (WtM w6 pw d.g s none none bW) := hid hw6
  have HB6 := hid (HB4.out.trans ((HB45.out.trans (hb6.mono HB45.out.size)).mono HB4.out.size))
  have HSP6 := hid (HSP.out.below (HB45.out.trans (hb6.mono HB45.out.size)))
  have HPW : Hid (w5.heap.size ≤ pw ∧ w4.heap.size ≤ p ∧ p < w5.heap.size ∧ w.heap.size ≤ w4.heap.size ∧ w4.heap.size ≤ w5.heap.size ∧ (∀ k, d.S k → k < w4.heap.size) ∧ (∀ k, sS s os k → k < w4.heap.size)) := hid ⟨hpw, HP5.out, HR5.out.lt p (.inl rfl), HB4.out.size, HB45.out.size, HD4.out.lt, fun k hk => by
    rcases hk with e | e
    · rw [e]; exact HSP.out.lt.1
    · exact HSP.out.lt.2 k e⟩
  clear hw6 hpw hb6 hbr HIN HCR
  have hok0 : RdOk bR (bD b) := ⟨rfl, by show 100 ≤ 1000000000; omega, Nat.zero_le _, by show (100 : Nat) = (List.replicate 100 (0 : Int)).length; simp, .inl rfl⟩
  have HRD := hid (read_bytes HR6.out hok0 (h : Int) (by have := HBH.out; omega))
  clear hok0
  go_upto_region 14 with (go_at_call 19; refine HRD.out.mono ?_; rintro e w7 ⟨v7, o7, rfl, hv7, hne7, hr7, hst7⟩; have hc1 : (rRead bR (bD b) (h : Int)).1 = 0 := A1.out; rw [hc1]; have hl1 : (rRead bR (bD b) (h : Int)).2.1.length = h := A2.out; rw [hl1] at hv7; obtain ⟨av7, cv7, rfl⟩ := own_slc hv7)
  have HR7 : Hid (Rh w7 p d none o7 (bR1 b h).2.2.1 (bR1 b h).2.2.2) := hid hr7
  have ST7 := hid hst7
  clear hv7 hne7 hr7 hst7 hc1 hl1 HRD
  have HRD := hid (read_bytes HR7.out (rdChk_ok A3.out) 100 (by omega))
  go_upto_region 17 with (go_at_call 19; refine HRD.out.mono ?_; rintro e w8 ⟨v8, o8, rfl, hv8, hne8, hr8, hst8⟩; have hc2 : (rRead (bR1 b h).2.2.1 (bR1 b h).2.2.2 100).1 = 37 := A4.out; rw [hc2]; have hl2 : (rRead (bR1 b h).2.2.1 (bR1 b h).2.2.2 100).2.1.length = 0 := A5.out; rw [hl2] at hv8; obtain ⟨av8, cv8, rfl⟩ := own_slc hv8)
  have HR8 : Hid (Rh w8 p d none o8 (bR2 b h).2.2.1 (bR2 b h).2.2.2) := hid hr8
  have ST8 := hid (ST7.out.trans hst8)
  clear hv8 hne8 hr8 hst8 hc2 hl2 HRD HR7 ST7
  have hrs := read_stopped HR8.out.rd (by rw [A6.out]; decide) 1
  rw [A6.out] at hrs
  have HRS := hid hrs
  clear hrs
  have ho := offset_any (w := w8.drew) (HR8.out.below (Below.refl _ _).drew).rd
  rw [A7.out] at ho
  have hlf := rleft_any (w := w8.drew) (HR8.out.below (Below.refl _ _).drew).rd (by rw [A7.out, A8.out]; have := HBH.out; omega) (by rw [A8.out]; omega)
  rw [A7.out, A8.out] at hlf
  obtain ⟨Y, hY⟩ : ∃ Y, Y = 100 - h := ⟨_, rfl⟩
  rw [← hY] at hlf
  have hwY : IntKind.i64.wrap (100 - (h : Int)) = (Y : Int) := by
    have := HBH.out
    rw [show 100 - (h : Int) = (Y : Int) by omega]
    exact wrap_id (by omega) (by omega)
  have HOF := hid ho
  have HLF := hid hlf
  clear ho hlf hY
  go_upto_region 20 with (first | (go_at_call 19; refine HRS.out.mono ?_; rintro e w9 ⟨rfl, h9⟩; rw [h9]; clear h9 w9) | (go_at_call 20; refine HOF.out.mono ?_; rintro e w9 ⟨rfl, h9⟩; rw [h9]; clear h9 w9) | (go_at_call 21; refine HLF.out.mono ?_; rintro e w9 ⟨rfl, h9⟩; rw [h9]; clear h9 w9))
  clear HOF HLF HRS hwY
  obtain ⟨w9, hw9⟩ : ∃ w9, w8.drew.drew = w9 := ⟨_, rfl⟩
  have h89 : Below w8.heap.size w8 w9 := by rw [← hw9]; exact (Below.refl _ _).drew.drew
  rw [hw9]
  have hps := HPW.out
  have hup := ST8.out.up
  have hnp : ∀ k, k = pw → ¬ (rS p none none k ∨ d.S k) := fun k hk hh => by
    rcases hh with (e | e | e) | e
    · omega
    · cases e
    · cases e
    · have := hps.2.2.2.2.2.1 k e
      omega
  have hns : ∀ k, sS s os k → ¬ (rS p none none k ∨ d.S k) := fun k hk hh => by
    have := hps.2.2.2.2.2.2 k hk
    rcases hh with (e | e | e) | e
    · omega
    · cases e
    · cases e
    · exact HAP.out k e hk
  have hwd9 : ∀ k, wS pw none none k → ¬ d.S k := fun k hk hd => by
    rcases hk with e | e | e
    · exact hnp k e (.inr hd)
    · cases e
    · cases e
  have hws9 : ∀ k, wS pw none none k → ¬ sS s os k := fun k hk hss => by
    have := hps.2.2.2.2.2.2 k hss
    rcases hk with e | e | e
    · omega
    · cases e
    · cases e
  have hwt9 := (HW6.out.upd hup fun k hk => by
    rcases hk with e | e | e
    · exact hnp k e
    · cases e
    · cases e).below h89
  have HWH9 : Hid (Wh w9 pw s d none none os 8 (allFree 8) bW (bR2 b h).2.2.2) := hid ⟨hwt9, (HR8.out.below h89).dv, (HSP6.out.upd hup (hns s (.inl rfl)) fun k hk => hns k (.inr hk)).below h89, ⟨hwd9, hws9, HAP.out⟩⟩
  have HB9 := hid ((HB6.out.trans (hup.below (B := w.heap.size) HB6.out.size fun k hk => by
    rcases hk with (e | e | e) | e
    · omega
    · cases e
    · cases e
    · exact HN3.out k e)).trans (h89.mono (Nat.le_trans HB6.out.size hup.size)))
  have HAN : Hid (AllNew w.heap.size pw s d none none os) := hid (allNew_mk (by omega) HN3.out HSN.out)
  clear hw9 h89 hps hup hnp hns hwd9 hws9 hwt9 HW6 HSP6 HR6
  have hal := (Below.refl _ w9).alloc (Nat.le_refl _) (.cells (madeCells #[.int .u8 0] h) 5)
  have X10 := heap_alloc_new w9 (.cells (madeCells #[.int .u8 0] h) 5)
  have H10 := HWH9.out.below hal
  have hwr := write_bytes H10 (by rfl) (List.replicate h 0) (by rw [A9.out, List.length_replicate]; exact ⟨rfl, by show 0 < 16; omega, fun e => absurd rfl e, by show 0 + h ≤ _; have := HBH.out; omega, Int.le_refl _, by show (0 : Int) + (h : Int) ≤ _; have := HBH.out; omega⟩) (some ⟨w9.heap.size, 0, none⟩) h (src_of (bytes_of X10 (cellsB_rep h)) (by rw [List.length_replicate]; exact Nat.le_refl _) (fun b' x e hh => by cases e; exact absurd (HWH9.out.lt _ hh) (Nat.lt_irrefl _)))
  rw [List.length_replicate] at hwr
  have HWR := hid hwr
  have HB10 := hid (HB9.out.trans (hal.mono HB9.out.size))
  clear hal X10 H10 hwr
  go_upto_region 22 with (first | (go_at_call 14; refine HWR.out.mono ?_; rintro e w11 ⟨rfl, o1, o1', os1, hw11, hst11⟩; have hc3 : (wWrite 8 bW (bR2 b h).2.2.2 (allFree 8) (List.replicate h 0)).1 = 0 := B1.out; rw [hc3]; have HW11 : Hid (Wh w11 pw s d o1 o1' os1 8 (bX1 b h).2.2.2 (bX1 b h).2.1 (bX1 b h).2.2.1) := hid hw11; have HB11 := hid (HAN.out.below HB10.out hst11); have HAN11 := hid (HAN.out.step hst11 HB10.out.size); have hal := (Below.refl _ w11).alloc (Nat.le_refl _) (.cells (madeCells #[.int .u8 0] m) 5); have X12 := heap_alloc_new w11 (.cells (madeCells #[.int .u8 0] m) 5); have hwr2 := write_bytes (HW11.out.below hal) B3.out (List.replicate m 0) (by rw [B8.out, List.length_replicate, HBH.out.2.2]; exact wChk_ok B2.out) (some ⟨w11.heap.size, 0, none⟩) m (src_of (bytes_of X12 (cellsB_rep m)) (by rw [List.length_replicate]; exact Nat.le_refl _) (fun b' x e hh => by cases e; exact absurd (HW11.out.lt _ hh) (Nat.lt_irrefl _))); rw [List.length_replicate] at hwr2; have HWR2 := hid hwr2; have HB12 := hid (HB11.out.trans (hal.mono HB11.out.size)); clear hw11 hst11 hal X12 hwr2 hc3 HWR) | (go_at_call 14; refine HWR2.out.mono ?_; rintro e w13 ⟨rfl, o2, o2', os2, hw13, hst13⟩; have hc4 : (wWrite 8 (bX1 b h).2.1 (bX1 b h).2.2.1 (bX1 b h).2.2.2 (List.replicate m 0)).1 = 38 := (by rw [HBH.out.2.2]; exact B4.out); rw [hc4]))
  have HW13 : Hid (Wh w13 pw s d o2 o2' os2 8 (bX2 b h).2.2.2 (bX2 b h).2.1 (bX2 b h).2.2.1) := hid (by rw [HBH.out.2.2] at hw13; exact hw13)
  have HB13 := hid (HAN11.out.below HB12.out hst13)
  clear hw13 hst13 hc4 HWR2
  have hcs := close_stopped HW13.out.wt (by rw [B5.out]; decide)
  rw [B5.out] at hcs
  have HCS := hid hcs
  clear hcs
  go_upto_region 23 with (go_at_call 16; refine HCS.out.mono ?_; rintro e w14 ⟨rfl, hb14⟩)
  have hal := hb14.alloc hb14.size (.cells #[.slice none 0 0, .int .i64 0] 39)
  have X15 := heap_alloc_new w14 (.cells #[.slice none 0 0, .int .i64 0] 39)
  obtain ⟨w15, hw15⟩ : ∃ w15, w14.alloc (.cells #[.slice none 0 0, .int .i64 0] 39) = w15 := ⟨_, rfl⟩
  obtain ⟨t16, ht16⟩ : ∃ t16, t16 = w14.heap.size := ⟨_, rfl⟩
  rw [hw15] at hal X15
  rw [← ht16] at X15
  rw [hw15, ← ht16]
  have HW15 := hid (HW13.out.below hal)
  have HB15 := hid (HB13.out.trans (hal.mono HB13.out.size))
  have c0 : w15.cell? ⟨t16, 0, none⟩ = some (.slice none 0 0) := (blk_cell X15 0).trans rfl
  have c1 : w15.cell? ⟨t16, 1, none⟩ = some (.int .i64 0) := (blk_cell X15 1).trans rfl
  have hlf := leftF_any HW15.out.sp
  rw [B6.out] at hlf
  have HLF := hid hlf
  obtain ⟨ci, hci⟩ : ∃ ci, ci = (bX2 b h).2.2.1.ci := ⟨_, rfl⟩
  obtain ⟨cs, hcs⟩ : ∃ cs, cs = (bX2 b h).2.2.1.cs := ⟨_, rfl⟩
  obtain ⟨ck, hck⟩ : ∃ ck, ck = (bX2 b h).2.2.1.ck := ⟨_, rfl⟩
  have HCI := hid (And.intro hci (And.intro hcs hck))
  have hf2 := field_cnt2 ci cs ((b : Int) + 1) ck
  clear hal X15 hw15 ht16 hb14 hlf hci hcs hck HCS
  go_wp2_with (first | (go_at_call 25; refine HLF.out.mono ?_; rintro e w16 ⟨rfl, hb16⟩; have HB16 := hid hb16; have hal := hb16.alloc hb16.size (.cells #[.int .u8 1] 5); have HW17 := hid (HW15.out.below hal); have HB17 := hid (HB15.out.trans (hal.mono HB15.out.size)); have hws := write_stopped HW17.out.wt (by rw [B5.out]; decide) (.slice (some ⟨w16.heap.size, 0, none⟩) 1 1); rw [B5.out] at hws; have HWS := hid hws; have hct := counts_any HW17.out.dv; rw [B7.out, ← HCI.out.1, ← HCI.out.2.1, ← HCI.out.2.2] at hct; have HCT := hid hct; clear hb16 hal hws hct) | (go_at_call 14; refine HWS.out.mono ?_; rintro e w18 ⟨rfl, h18⟩; rw [h18]; clear h18 w18) | (go_at_call 22; refine HCT.out.mono ?_; rintro e w19 ⟨rfl, hb19⟩))
  go_ret
  exact ⟨by simp, HB17.out.trans (hb19.mono HB17.out.size)⟩
theorem broken_walk (a b : Int) (w : World) : Calls Try.prog 7 #[.int .i64 a, .int .i64 b] w fun e w' => e = .returned (.bool true) ∧ Below w.heap.size w w' := by
  by_cases h : a < 0 ∨ 5 < a ∨ b < 0 ∨ a * 16 < b
  · exact broken_out a b w h
  · obtain ⟨n, rfl⟩ := Int.eq_ofNat_of_zero_le (show 0 ≤ a by omega)
    obtain ⟨m, rfl⟩ := Int.eq_ofNat_of_zero_le (show 0 ≤ b by omega)
    exact broken_in n m w (by omega) (by omega)
end Go.Proofs.Ytkhejipcclpknaa
