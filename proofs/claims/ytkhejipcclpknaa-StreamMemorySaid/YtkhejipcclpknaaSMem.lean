/- The walk of StreamMemory. No statement is proved here. -/
import Derived.Test.YtkhejipcclpknaaUP
import Derived.Test.YtkhejipcclpknaaInn
import Derived.Deep.LoopGhost
set_option linter.unusedVariables false
set_option linter.unusedSimpArgs false
namespace Go.Proofs.Ytkhejipcclpknaa
open Go.RowKit

theorem own_ltB {w : World} {B : Nat} {e : TypeId} {size : Nat} {v : Value} {n : Nat} {xs : List Value} (h : w.ownsRow B e size v n xs) : ∀ k, v.ownBlock = some k → k < w.heap.size := fun k hk => by
  rcases h.2 with ⟨rfl, _⟩ | ⟨g, cap, cur, rfl, _, hg, _⟩
  · cases hk
  · cases hk
    exact blk_lt hg
set_option maxHeartbeats 8000000 in
set_option maxRecDepth 100000 in
theorem mem_walk (a : Option Addr) (cap : Nat) (l : List Int) (w : World) (hin : BytesIn w a l) (hcap : l.length ≤ cap) (hml : l.length ≤ maxLen) :
    Calls Try.prog 3 #[.slice a l.length cap] w fun e w' => e = .returned (.bool true) ∧ Below w.heap.size w w' := by
  have HA := hid (anchor_any w)
  obtain ⟨L, hL⟩ : ∃ L, L = l.length := ⟨_, rfl⟩
  rw [← hL] at hcap hml ⊢
  have HL := hid hL
  have HIN := hid hin
  have HCP := hid hcap
  clear hL hin hcap
  by_cases hg : L < 1 ∨ 64 < L
  · by_cases h1 : L < 1
    · have h1I : (L : Int) < 1 := by omega
      clear hg hml
      go_enter Try.func3, Try.ntmps3
      go_wp2_with (go_at_call 10; refine HA.out.mono ?_; rintro e w1 ⟨rfl, hb1⟩)
      go_ret
      exact ⟨rfl, hb1⟩
    have h2I : (64 : Int) < (L : Int) := by omega
    have h1I : ¬ (L : Int) < 1 := by omega
    clear hg hml
    go_enter Try.func3, Try.ntmps3
    go_wp2_with (go_at_call 10; refine HA.out.mono ?_; rintro e w1 ⟨rfl, hb1⟩)
    go_ret
    exact ⟨rfl, hb1⟩
  have h1I : ¬ (L : Int) < 1 := by omega
  have h2I : ¬ (64 : Int) < (L : Int) := by omega
  have HG := hid (show 1 ≤ L ∧ L ≤ 64 by omega)
  clear hml
  go_enter Try.func3, Try.ntmps3
  go_upto_region 5 with (go_at_call 10; refine HA.out.mono ?_; rintro e w1 ⟨rfl, hb1⟩)
  clear hg h1I h2I
  have HB1 := hid hb1
  have hal := (Below.refl _ w1).alloc (Nat.le_refl _) (.cells #[] 5)
  obtain ⟨g, ic, w2, hrun, hown, hgr, hg⟩ := app_onto (heap_alloc_new w1 (.cells #[] 5)) 22 L cap HL.out.symm ((HIN.out.below hb1).below hal) (by have := HG.out; omega) (fun _ _ _ _ => trivial)
  have HB12 := hid (hal.grown hgr hal.size (fun k e => by cases e; exact Nat.le_refl _))
  have HB2 := hid (HB1.out.trans (HB12.out.mono HB1.out.size))
  have hnew := new_plain (w := w2) (a := some ⟨g, 0, none⟩) (l := l) 16 8 (by omega) (by omega) (by omega) (by rw [← HL.out]; have := HG.out; omega) (bytes_own (by rw [HL.out] at hown; exact hown)) ic
  rw [← HL.out] at hnew
  have HNEW := hid hnew
  clear hb1 hal hown hgr hg hnew HA
  go_upto_region 6 with (first | (at_builtin; refine wpList_append_run _ rfl (.tmp 48) (.tmp 49) 22 22 rfl _ _ rfl rfl hrun ?_) | (go_at_call 11; refine HNEW.out.mono ?_; rintro e w3 ⟨d, rfl, hd, hb3, hn3⟩))
  clear hrun
  have HD := hid hd
  have HB3 := hid (HB2.out.trans (hb3.mono HB2.out.size))
  have HN3 := hid (fun k hk => Nat.le_trans HB2.out.size (hn3 k hk))
  have HS := hid (space_any 8 w3 (by omega))
  clear hd hb3 hn3 HNEW
  go_upto_region 9 with (go_at_call 12; refine HS.out.mono ?_; rintro e w4 ⟨s, os, rfl, hsp, hps, hos, hb4⟩)
  have HD4 := hid (HD.out.below hb4)
  have HAP := hid (beside_new HD.out hps hos)
  have HC := hid (create_on HD4.out hsp HAP.out ⟨rfl, rfl⟩ rfl (Int.le_refl _) (by show (0 : Int) ≤ _; omega))
  have HB4 := hid (HB3.out.trans (hb4.mono HB3.out.size))
  have HSN := hid (show ∀ k, sS s os k → w.heap.size ≤ k from fun k hk => Nat.le_trans HB3.out.size (by
    rcases hk with e | e
    · rw [e]; exact hps
    · exact hos k e))
  clear hsp hps hos hb4 HS
  go_upto_region 12 with (go_at_call 13; refine HC.out.mono ?_; rintro e w5 ⟨p, rfl, hw5, hp5, hb5⟩)
  have HW5 := hid hw5
  have HB5 := hid (HB4.out.trans (hb5.mono HB4.out.size))
  have HDN := hid (allNew_mk (os := os) (Nat.le_trans HB4.out.size hp5) HN3.out HSN.out)
  clear hw5 hp5 hb5 HC
  have hal := (Below.refl _ w5).alloc (Nat.le_refl _) (.cells #[] 5)
  obtain ⟨g2, ic2, w6, hrun, hown, hgr, hg⟩ := app_onto (heap_alloc_new w5 (.cells #[] 5)) 22 L cap HL.out.symm ((HIN.out.below HB5.out).below hal) (by have := HG.out; omega) (fun _ _ _ _ => trivial)
  have hb56 := hal.grown hgr hal.size (fun k e => by cases e; exact Nat.le_refl _)
  have HW6 := hid (HW5.out.below hb56)
  have HB6 := hid (HB5.out.trans (hb56.mono HB5.out.size))
  have HOW := hid hown
  have HG2 : Hid (w5.heap.size ≤ g2 ∧ ¬ allS p none none d s os g2) := hid (by
    have hge : w5.heap.size ≤ g2 := by
      rcases hg with e | e
      · rw [e]; exact Nat.le_refl _
      · rw [e]; exact hal.size
    exact ⟨hge, fun hh => by have := HW5.out.mem.lt g2 hh; omega⟩)
  clear hal hown hgr hg hb56
  go_upto_region 13 with (at_builtin; refine wpList_append_run _ rfl (.tmp 77) (.tmp 78) 22 22 rfl _ _ rfl rfl hrun ?_)
  clear hrun
  have hby6 : BytesIn w6 (some ⟨g2, 0, none⟩) l := bytes_own (by rw [← HL.out]; exact HOW.out)
  have hle2 : L ≤ ic2 := by
    rcases HOW.out.2 with ⟨hh, h0⟩ | ⟨b, cap', cur, hh, _, _, hle, _⟩
    · cases hh
    · cases hh
      exact hle
  have hwr := write_on HW6.out l (by rw [← HL.out]; show 0 + L ≤ _; have := HG.out; omega) (by rw [← HL.out, cnt_all 8 8 (Nat.le_refl _)]; show ((0 + L : Nat) : Int) ≤ ((8 : Nat) + 0 : Int) * (16 : Nat); have := HG.out; omega) (by rw [← HL.out]; show (0 : Int) + (L : Nat) ≤ _; have := HG.out; omega) (some ⟨g2, 0, none⟩) ic2 (src_of hby6 (by rw [← HL.out]; exact hle2) (fun b' x e => by cases e; exact HG2.out.2))
  rw [← HL.out] at hwr
  have HWR := hid hwr
  have HBY6 := hid hby6
  clear hwr hby6 hle2
  go_upto_region 15 with (first | (go_at_call 14; refine HWR.out.mono ?_; rintro e w7 ⟨rfl, o1, o1', os1, F1, W1, D1, f1, hw7, hst7, hs7, hc7, hn7⟩; have HW7 := hid hw7; have ST7 := hid hst7; have S7 := hid hs7; have hb7 := HDN.out.below HB6.out hst7; have hsm := same_any (HBY6.out.out hst7.up HG2.out.2) (HIN.out.below hb7) (by rw [← HL.out]; have := HG.out; omega) (by rw [← HL.out]; have := HG.out; omega) ic2 cap; rw [← HL.out, decide_eq_true (Eq.refl l)] at hsm; have HSM := hid hsm; have HB7 := hid hb7; clear hw7 hst7 hs7 hc7 hn7 hb7 hsm HWR) | (go_at_call 15; refine HSM.out.mono ?_; rintro e w8 ⟨rfl, h8⟩; rw [h8]; clear h8 w8))
  clear HSM
  have HDN7 := hid (HDN.out.step ST7.out HB6.out.size)
  have n7 := ST7.out.out (b := g2) (by have := own_ltB HOW.out g2 rfl; exact this) HG2.out.2
  have HN7 := hid n7
  have HOW7 : Hid (w7.ownsRow 0 5 1 (.slice (some ⟨g2, 0, none⟩) L ic2) L (cellsB l)) := hid (own_same HOW.out fun k hk => by cases hk; exact n7.1)
  clear n7
  go_wp2_with fail
  go_loopg [92] L (fun gh s92 wr => ∃ (i : Nat) (m : List Int), L - i = gh ∧ i ≤ L ∧ s92 = .int .i64 (i : Int) ∧ Hid (wr.ownsRow 0 5 1 (.slice (some ⟨g2, 0, none⟩) L ic2) L (cellsB m) ∧ L = m.length) ∧ Hid (Upd (fun k => k = g2) w7 wr))
  case atStart => exact ⟨0, l, rfl, Nat.zero_le _, rfl, hid ⟨HOW7.out, HL.out⟩, hid (Upd.refl _ _)⟩
  case round =>
    obtain ⟨i, m, rfl, hi, rfl, HM, HU⟩ := hrel
    by_cases hil : i < L
    · have hil' : i < m.length := by have := HM.out.2; omega
      have cx := HM.out.1.cells (g := g2) rfl i _ (cellsB_get m i hil')
      rw [Addr.add_lit, Nat.zero_add] at cx
      obtain ⟨x, hx⟩ : ∃ x, x = m[i] := ⟨_, rfl⟩
      rw [← hx] at cx
      have fx : wr.frozen? ⟨g2, i, none⟩ = false := by
        rcases HM.out.1.2 with ⟨hh, _⟩ | ⟨b, cap', cur, hh, _, hg, _⟩
        · cases hh
        · cases hh
          exact blk_free hg i
      have hilI : (i : Int) < (L : Int) := by omega
      have hi1 : (i : Int) + 1 ≤ 9223372036854775807 := by have := HG.out; omega
      have HIL := hid hil
      clear hil hil' hi hx
      go_wp2_with fail
      go_roundg (L - (i + 1))
      case measure => have := HIL.out; omega
      case rel => exact ⟨i + 1, m.set i _, rfl, HIL.out, by go_num, hid ⟨row_set HM.out.1 HM.out.2 HIL.out _, by rw [List.length_set]; exact HM.out.2⟩, hid (HU.out.setCell (p := ⟨g2, i, none⟩) (fun _ => rfl) _)⟩
    · have hie : ¬ (i : Int) < (L : Int) := by omega
      clear hi hil
      go_upto_region 20 with fail
      have hns : ∀ k, allS p o1 o1' d s os1 k → ¬ k = g2 := fun k hk e => HN7.out.2.1 (by rw [← e]; exact hk)
      have HW8 : Hid (WOn wr p s d o1 o1' os1 8 F1 W1 D1 ([] ++ l) f1) := hid ⟨HW7.out.mem.beside HU.out hns, HW7.out.good, HW7.out.fa, HW7.out.cl, HW7.out.c0, HW7.out.c1⟩
      have HB8 : Hid (Below w.heap.size w wr) := hid (HB7.out.trans (HU.out.below (B := w.heap.size) HB7.out.size fun k e => by
        have := HG2.out.1
        have := HB5.out.size
        omega))
      have HCL := hid (close_on HW8.out (by rw [List.length_append, ← HL.out]; show 0 + L ≤ _; have := HG.out; omega))
      have hsz0 : ((([] : List Int) ++ l).length : Int) = (L : Int) := by rw [List.nil_append, ← HL.out]
      obtain ⟨q, hq⟩ : ∃ q, q = (L + 15) / 16 := ⟨_, rfl⟩
      have HQ := hid (And.intro hq (show 1 ≤ q by have := HG.out; omega))
      clear hns hq
      go_upto_region 21 with (go_at_call 16; refine HCL.out.mono ?_; rintro e w9 ⟨v, o2, o2', os2, W2, D2, rfl, hv, hvn, hw9, hst9, hr9, hz9, hnf9, hml9, hs9, hfg9, hcw9⟩; rw [hsz0]; have HV := hid hv; have hbl : W1.blocks.length = q := (by rw [hfg9.ln, hs9.un, S7.out.un, List.nil_append, ← HL.out]; show needN L 16 = q; have := HQ.out.1; unfold needN; split <;> omega); rw [hbl] at hv; have HBL := hid hbl; clear hbl; obtain ⟨av, cv, rfl⟩ := own_slc hv)
      have HW9 := hid hw9
      have ST9 := hid hst9
      have HVN := hid hvn
      have HFG := hid hfg9
      have HNF := hid hnf9
      have S9 := hid hs9
      clear hv hvn hw9 hst9 hr9 hz9 hnf9 hml9 hs9 hfg9 hcw9 hsz0 HCL
      obtain ⟨xb, rfl⟩ : ∃ xb, av = some ⟨xb, 0, none⟩ := by
        rcases HV.out.2 with ⟨hh, h0⟩ | ⟨b, cap', cur, hh, _⟩
        · have := HQ.out.2
          rw [HBL.out] at h0
          omega
        · cases hh
          exact ⟨b, rfl⟩
      have hxl : xb < w9.heap.size := own_ltB HV.out xb rfl
      have hxn := HVN.out xb rfl
      have hal := (Below.refl _ w9).alloc (Nat.le_refl _) (.cells #[.slice (some ⟨xb, 0, none⟩) q cv, .int .i64 (L : Int)] 39)
      have X10 := heap_alloc_new w9 (.cells #[.slice (some ⟨xb, 0, none⟩) q cv, .int .i64 (L : Int)] 39)
      obtain ⟨w10, hw10⟩ : ∃ w10, w9.alloc (.cells #[.slice (some ⟨xb, 0, none⟩) q cv, .int .i64 (L : Int)] 39) = w10 := ⟨_, rfl⟩
      obtain ⟨t10, ht10⟩ : ∃ t10, t10 = w9.heap.size := ⟨_, rfl⟩
      rw [hw10] at hal X10
      rw [← ht10] at X10
      rw [hw10, ← ht10]
      have HX10 := hid X10
      have HDN8 := hid (HDN7.out.step ST9.out HB8.out.size)
      have HB9 := hid (HDN7.out.below HB8.out ST9.out)
      have HB10 := hid (HB9.out.trans (hal.mono HB9.out.size))
      have HD10 := hid (HW9.out.dv.below hal)
      have HNX : Hid (w.heap.size ≤ xb ∧ xb < t10 ∧ ¬ d.S xb ∧ ∀ k, d.S k → w.heap.size ≤ k ∧ k < t10) := hid ⟨Nat.le_trans HB8.out.size hxn.1, by omega, fun hh => hxn.2 (.inr (.inl hh)), fun k hk => ⟨HDN8.out k (.inr (.inl hk)), by have := HW9.out.dv.lt k hk; omega⟩⟩
      have HV10 : Hid (w10.ownsRow 0 3 1 (.slice (some ⟨xb, 0, none⟩) q cv) W1.blocks.length (cellsN W1.blocks)) := hid (own_same HV.out fun k hk => by cases hk; exact hal.block _ hxl)
      have HS9 := hid hal.size
      clear hal X10 hw10 ht10 hxl hxn HV
      have c0 : w10.cell? ⟨t10, 0, none⟩ = some (.slice (some ⟨xb, 0, none⟩) q cv) := (blk_cell HX10.out 0).trans rfl
      have c1 : w10.cell? ⟨t10, 1, none⟩ = some (.int .i64 (L : Int)) := (blk_cell HX10.out 1).trans rfl
      have hq1 : ¬ (q : Int) < 1 := by have := HQ.out; omega
      go_upto_region 23 with fail
      have HFZ : Hid (∃ f0, f0 = Obj.cells #[.slice none 0 0, .int .i64 0] 39) := hid ⟨_, rfl⟩
      have hlb : W1.blocks.length ≤ 1000000 := by rw [HBL.out]; have := HQ.out; have := HG.out; omega
      have ow : ∀ W : World, Below w10.heap.size w10 W → W.ownsRow 0 3 1 (.slice (some ⟨xb, 0, none⟩) q cv) W1.blocks.length (cellsN W1.blocks) := fun W h => own_same HV10.out fun k hk => by
        cases hk
        exact h.block _ (Nat.lt_trans HNX.out.2.1 (blk_lt HX10.out))
      have b1 : Below w10.heap.size w10 (w10.alloc (.cells #[] 3)).drew := ((Below.refl _ w10).alloc (Nat.le_refl _) _).drew
      have b2 : Below w10.heap.size w10 ((w10.alloc (.cells #[] 3)).alloc (.cells #[.slice none 0 0, .int .i64 0] 39)).drew := (((Below.refl _ w10).alloc (Nat.le_refl _) _).alloc (by simp) _).drew
      have b3 : Below w10.heap.size w10 ((w10.alloc (.cells #[.slice none 0 0, .int .i64 0] 39)).alloc (.cells #[] 3)).drew := (((Below.refl _ w10).alloc (Nat.le_refl _) _).alloc (by simp) _).drew
      have q2 : ((w10.alloc (.cells #[] 3)).alloc (.cells #[.slice none 0 0, .int .i64 0] 39)).drew.heap[w10.heap.size]? = some (.cells #[] 3 (0, 0)) := (Below.heap_alloc _ _ w10.heap.size (by simp)).trans (heap_alloc_new w10 _)
      have q3 : ((w10.alloc (.cells #[.slice none 0 0, .int .i64 0] 39)).alloc (.cells #[] 3)).drew.heap[w10.heap.size + 1]? = some (.cells #[] 3 (0, 0)) := by
        have := heap_alloc_new (w10.alloc (.cells #[.slice none 0 0, .int .i64 0] 39)) (.cells #[] 3)
        rw [show (w10.alloc (.cells #[.slice none 0 0, .int .i64 0] 39)).heap.size = w10.heap.size + 1 by simp] at this
        exact this
      obtain ⟨g1, i1, u1, r1, o1, k1, e1⟩ := app_ints (w := (w10.alloc (.cells #[] 3)).drew) (q := w10.heap.size) (heap_alloc_new w10 _) 37 (ow _ b1) hlb
      obtain ⟨g2, i2, u2, r2, o2, k2, e2⟩ := app_ints q2 37 (ow _ b2) hlb
      obtain ⟨g3, i3, u3, r3, o3, k3, e3⟩ := app_ints q3 37 (ow _ b3) hlb
      rw [HBL.out] at r1 r2 r3
      have BU1 := hid (b1.grown k1 b1.size (fun k e => by cases e; exact Nat.le_refl _))
      have BU2 := hid (b2.grown k2 b2.size (fun k e => by cases e; exact Nat.le_refl _))
      have BU3 := hid (b3.grown k3 b3.size (fun k e => by cases e; exact Nat.le_succ _))
      have xl := blk_lt HX10.out
      have y10 := (BU1.out.cell (p := ⟨t10, 0, none⟩) xl).trans c0
      have y11 := (BU1.out.cell (p := ⟨t10, 1, none⟩) xl).trans c1
      have y20 := (BU2.out.cell (p := ⟨t10, 0, none⟩) xl).trans c0
      have y21 := (BU2.out.cell (p := ⟨t10, 1, none⟩) xl).trans c1
      have y30 := (BU3.out.cell (p := ⟨t10, 0, none⟩) xl).trans c0
      have y31 := (BU3.out.cell (p := ⟨t10, 1, none⟩) xl).trans c1
      have a1 : Below w10.heap.size w10 (w10.alloc (.cells #[] 3)) := (Below.refl _ w10).alloc (Nat.le_refl _) _
      have a10 := (a1.cell (p := ⟨t10, 0, none⟩) xl).trans c0
      have a11 := (a1.cell (p := ⟨t10, 1, none⟩) xl).trans c1
      clear a1
      have a2 : Below w10.heap.size w10 ((w10.alloc (.cells #[] 3)).alloc (.cells #[.slice none 0 0, .int .i64 0] 39)) := ((Below.refl _ w10).alloc (Nat.le_refl _) _).alloc (by simp) _
      have a20 := (a2.cell (p := ⟨t10, 0, none⟩) xl).trans c0
      have a21 := (a2.cell (p := ⟨t10, 1, none⟩) xl).trans c1
      clear a2
      have a3 : Below w10.heap.size w10 (w10.alloc (.cells #[.slice none 0 0, .int .i64 0] 39)) := (Below.refl _ w10).alloc (Nat.le_refl _) _
      have a30 := (a3.cell (p := ⟨t10, 0, none⟩) xl).trans c0
      have a31 := (a3.cell (p := ⟨t10, 1, none⟩) xl).trans c1
      clear a3
      have a4 : Below w10.heap.size w10 ((w10.alloc (.cells #[.slice none 0 0, .int .i64 0] 39)).alloc (.cells #[] 3)) := ((Below.refl _ w10).alloc (Nat.le_refl _) _).alloc (by simp) _
      have a40 := (a4.cell (p := ⟨t10, 0, none⟩) xl).trans c0
      have a41 := (a4.cell (p := ⟨t10, 1, none⟩) xl).trans c1
      clear a4
      have a5 : Below w10.heap.size w10 (u1.alloc (.cells #[.slice none 0 0, .int .i64 0] 39)) := BU1.out.alloc BU1.out.size _
      have a50 := (a5.cell (p := ⟨t10, 0, none⟩) xl).trans c0
      have a51 := (a5.cell (p := ⟨t10, 1, none⟩) xl).trans c1
      clear a5
      have z2 : u2.heap[w10.heap.size + 1]? = some (.cells #[.slice none 0 0, .int .i64 0] 39 (0, 0)) := ((Upd.of_grown k2).block _ (by simp) (fun e => by have := Option.some.inj e; omega)).trans (by
        have := heap_alloc_new (w10.alloc (.cells #[] 3)) (.cells #[.slice none 0 0, .int .i64 0] 39)
        rw [show (w10.alloc (.cells #[] 3)).heap.size = w10.heap.size + 1 by simp] at this
        exact this)
      have z3 : u3.heap[w10.heap.size]? = some (.cells #[.slice none 0 0, .int .i64 0] 39 (0, 0)) := ((Upd.of_grown k3).block _ (by show w10.heap.size < (World.alloc _ _).heap.size; simp; omega) (fun e => by have := Option.some.inj e; omega)).trans ((Below.heap_alloc _ _ w10.heap.size (by simp)).trans (heap_alloc_new w10 _))
      have z20 := blk_cell z2 0
      have z21 := blk_cell z2 1
      have z30 := blk_cell z3 0
      have z31 := blk_cell z3 1
      have z2f := blk_free z2
      have z3f := blk_free z3
      have v2 : Below w10.heap.size w10 ((u2.setCell ⟨w10.heap.size + 1, 0, none⟩ (.slice (some ⟨g2, 0, none⟩) q i2)).setCell ⟨w10.heap.size + 1, 1, none⟩ (.int .i64 (L : Int))) := (BU2.out.setCell (p := ⟨w10.heap.size + 1, 0, none⟩) (by show w10.heap.size ≤ w10.heap.size + 1; omega) _).setCell (p := ⟨w10.heap.size + 1, 1, none⟩) (by show w10.heap.size ≤ w10.heap.size + 1; omega) _
      have v20 := (v2.cell (p := ⟨t10, 0, none⟩) xl).trans c0
      have v21 := (v2.cell (p := ⟨t10, 1, none⟩) xl).trans c1
      have V2 := hid v2
      clear v2
      have v3 : Below w10.heap.size w10 ((u3.setCell ⟨w10.heap.size, 0, none⟩ (.slice (some ⟨g3, 0, none⟩) q i3)).setCell ⟨w10.heap.size, 1, none⟩ (.int .i64 (L : Int))) := (BU3.out.setCell (p := ⟨w10.heap.size, 0, none⟩) (by show w10.heap.size ≤ w10.heap.size; omega) _).setCell (p := ⟨w10.heap.size, 1, none⟩) (by show w10.heap.size ≤ w10.heap.size; omega) _
      have v30 := (v3.cell (p := ⟨t10, 0, none⟩) xl).trans c0
      have v31 := (v3.cell (p := ⟨t10, 1, none⟩) xl).trans c1
      have V3 := hid v3
      clear v3
      have Z2 := hid z2
      have Z3 := hid z3
      have R1 := hid (fun (W : World) (v : Value) (h : W = (w10.alloc (.cells #[] 3)).drew) (hv : v = .slice (some ⟨w10.heap.size, 0, none⟩) 0 0) => (show (Builtin.append_ #[37, 37] 37 #[v, .slice (some ⟨xb, 0, none⟩) q cv]).run Try.prog W = .ok (.slice (some ⟨g1, 0, none⟩) q i1) u1 from by rw [h, hv]; exact r1))
      have R2 := hid (fun (W : World) (v : Value) (h : W = ((w10.alloc (.cells #[] 3)).alloc (.cells #[.slice none 0 0, .int .i64 0] 39)).drew) (hv : v = .slice (some ⟨w10.heap.size, 0, none⟩) 0 0) => (show (Builtin.append_ #[37, 37] 37 #[v, .slice (some ⟨xb, 0, none⟩) q cv]).run Try.prog W = .ok (.slice (some ⟨g2, 0, none⟩) q i2) u2 from by rw [h, hv]; exact r2))
      have R3 := hid (fun (W : World) (v : Value) (h : W = ((w10.alloc (.cells #[.slice none 0 0, .int .i64 0] 39)).alloc (.cells #[] 3)).drew) (hv : v = .slice (some ⟨w10.heap.size + 1, 0, none⟩) 0 0) => (show (Builtin.append_ #[37, 37] 37 #[v, .slice (some ⟨xb, 0, none⟩) q cv]).run Try.prog W = .ok (.slice (some ⟨g3, 0, none⟩) q i3) u3 from by rw [h, hv]; exact r3))
      have K1 := hid k1
      have K2 := hid k2
      have K3 := hid k3
      have O1 := hid o1
      have O2 := hid o2
      have O3 := hid o3
      have E1 := hid e1
      have E2 := hid e2
      have E3 := hid e3
      clear hlb ow b1 b2 b3 q2 q3 r1 r2 r3 o1 o2 o3 k1 k2 k3 e1 e2 e3 xl hq1 HFZ z2 z3
      go_region_held3 (fun W : World => W.cell? ⟨t10, 0, none⟩ = some (.slice (some ⟨xb, 0, none⟩) q cv) ∧ W.cell? ⟨t10, 1, none⟩ = some (.int .i64 (L : Int))) (go_keep) (first | (refine step_append_run rfl (.tmp 115) (.tmp 117) 37 37 rfl _ _ rfl rfl (R1.out _ _ (by with_reducible rfl) (by rfl)) ?_) | (refine step_append_run rfl (.tmp 115) (.tmp 117) 37 37 rfl _ _ rfl rfl (R2.out _ _ (by with_reducible rfl) (by rfl)) ?_) | (refine step_append_run rfl (.tmp 115) (.tmp 117) 37 37 rfl _ _ rfl rfl (R3.out _ _ (by with_reducible rfl) (by rfl)) ?_))
      all_goals go_upto_region 24 with fail
      all_goals rename_i hh1 kk hh2
      all_goals clear hh1 y10 y11 y20 y21 y30 y31 a10 a11 a20 a21 a30 a31 a40 a41 a50 a51 z20 z21 z30 z31 z2f z3f v20 v21 v30 v31
      all_goals first
        | (have HYF : Hid (YF w10 (u1.alloc (.cells #[.slice (some ⟨g1, 0, none⟩) q i1, .int .i64 (L : Int)] 39)) u1.heap.size g1 i1 q (L : Int) W1.blocks) := hid (YF.one (by have := O1.out; rw [HBL.out] at this; exact this) BU1.out (by rcases E1.out with e | e; (rw [e]; exact Nat.le_refl _); (rw [e]; show _ ≤ (w10.alloc _).heap.size; simp)))
           generalize u1.alloc (.cells #[.slice (some ⟨g1, 0, none⟩) q i1, .int .i64 (L : Int)] 39) = W at HYF ⊢
           generalize u1.heap.size = t12 at HYF ⊢
           generalize g1 = yg at HYF ⊢
           generalize i1 = yc at HYF ⊢
           generalize w10.heap.size = qb at ⊢
           revert qb
           revert yc
           revert yg
           revert t12
           revert W
           revert kk
           refine ?rest)
        | (have HYF : Hid (YF w10 ((u2.setCell ⟨w10.heap.size + 1, 0, none⟩ (.slice (some ⟨g2, 0, none⟩) q i2)).setCell ⟨w10.heap.size + 1, 1, none⟩ (.int .i64 (L : Int))) (w10.heap.size + 1) g2 i2 q (L : Int) W1.blocks) := hid (YF.two Z2.out (by have := O2.out; rw [HBL.out] at this; exact this) BU2.out (by omega) (by rcases E2.out with e | e; (rw [e]; exact Nat.le_refl _); (rw [e]; show _ ≤ ((w10.alloc _).alloc _).heap.size; simp; omega)) (by rcases E2.out with e | e; (rw [e]; omega); (have e' : g2 = w10.heap.size + 2 := (by rw [e]; show ((w10.alloc _).alloc _).heap.size = _; simp); omega)))
           generalize ((u2.setCell ⟨w10.heap.size + 1, 0, none⟩ (.slice (some ⟨g2, 0, none⟩) q i2)).setCell ⟨w10.heap.size + 1, 1, none⟩ (.int .i64 (L : Int))) = W at HYF ⊢
           generalize w10.heap.size + 1 = t12 at HYF ⊢
           generalize g2 = yg at HYF ⊢
           generalize i2 = yc at HYF ⊢
           generalize w10.heap.size = qb at ⊢
           revert qb
           revert yc
           revert yg
           revert t12
           revert W
           revert kk
           refine ?rest)
        | (have HYF : Hid (YF w10 ((u3.setCell ⟨w10.heap.size, 0, none⟩ (.slice (some ⟨g3, 0, none⟩) q i3)).setCell ⟨w10.heap.size, 1, none⟩ (.int .i64 (L : Int))) w10.heap.size g3 i3 q (L : Int) W1.blocks) := hid (YF.two Z3.out (by have := O3.out; rw [HBL.out] at this; exact this) BU3.out (Nat.le_refl _) (by rcases E3.out with e | e; (rw [e]; omega); (rw [e]; show _ ≤ ((w10.alloc _).alloc _).heap.size; simp; omega)) (by rcases E3.out with e | e; (rw [e]; omega); (have e' : g3 = w10.heap.size + 2 := (by rw [e]; show ((w10.alloc _).alloc _).heap.size = _; simp); omega)))
           generalize ((u3.setCell ⟨w10.heap.size, 0, none⟩ (.slice (some ⟨g3, 0, none⟩) q i3)).setCell ⟨w10.heap.size, 1, none⟩ (.int .i64 (L : Int))) = W at HYF ⊢
           generalize w10.heap.size + 1 = qb at ⊢
           generalize w10.heap.size = t12 at HYF ⊢
           generalize g3 = yg at HYF ⊢
           generalize i3 = yc at HYF ⊢
           revert qb
           revert yc
           revert yg
           revert t12
           revert W
           revert kk
           refine ?rest)
      case rest =>
        intro kk hkk W t12 yg yc HYF qb
        clear R1 R2 R3 K1 K2 K3 O1 O2 O3 E1 E2 E3 Z2 Z3 V2 V3 BU1 BU2 BU3 c0 c1
        have HXW := hid ((HYF.out.bw.block t10 (blk_lt HX10.out)).trans HX10.out)
        have c0 : W.cell? ⟨t10, 0, none⟩ = some (.slice (some ⟨xb, 0, none⟩) q cv) := (blk_cell HXW.out 0).trans rfl
        have c1 : W.cell? ⟨t10, 1, none⟩ = some (.int .i64 (L : Int)) := (blk_cell HXW.out 1).trans rfl
        have HDW := hid (HD10.out.below HYF.out.bw)
        have HXB : Hid (xb < w10.heap.size ∧ t10 < w10.heap.size) := hid ⟨Nat.lt_trans HNX.out.2.1 (blk_lt HX10.out), blk_lt HX10.out⟩
        have HVW : Hid (W.ownsRow 0 3 1 (.slice (some ⟨xb, 0, none⟩) q cv) W1.blocks.length (cellsN W1.blocks)) := hid (own_same HV10.out fun k hk => by cases hk; exact HYF.out.bw.block _ HXB.out.1)
        have HFG2 : Hid (FG D2 W1.blocks l) := hid (by have := HFG.out; rw [List.nil_append] at this; exact this)
        have ho1 := open_on HDW.out HNF.out HVW.out HFG2.out (by rw [← HL.out]; have := HG.out; omega)
        rw [← HL.out] at ho1
        have HO1 := hid ho1
        have HBW := hid (HB10.out.trans (HYF.out.bw.mono HB10.out.size))
        clear ho1 HFG
        go_upto_region 25 with (go_at_call 17; refine HO1.out.mono ?_; rintro e wa ⟨pr, orr, rfl, hra, npa, noa, hba⟩; rw [← HL.out] at hra)
        have HRA := hid hra
        have HNA := hid (And.intro npa noa)
        have HBA := hid hba
        clear hra npa noa hba HO1 c0 c1
        have HYA := hid ((HBA.out.block t12 (blk_lt HYF.out.hy)).trans HYF.out.hy)
        have d0 : wa.cell? ⟨t12, 0, none⟩ = some (.slice (some ⟨yg, 0, none⟩) q yc) := (blk_cell HYA.out 0).trans rfl
        have d1 : wa.cell? ⟨t12, 1, none⟩ = some (.int .i64 (L : Int)) := (blk_cell HYA.out 1).trans rfl
        have HYL : Hid (yg < W.heap.size) := hid (HYF.out.oy.lt yg rfl).2
        have ho2 := open_on (HDW.out.below HBA.out) HNF.out (show wa.ownsRow 0 3 1 (.slice (some ⟨yg, 0, none⟩) q yc) W1.blocks.length (cellsN W1.blocks) from own_same (by rw [HBL.out]; exact HYF.out.oy) fun k hk => by cases hk; exact HBA.out.block _ HYL.out) HFG2.out (by rw [← HL.out]; have := HG.out; omega)
        rw [← HL.out] at ho2
        have HO2 := hid ho2
        clear ho2
        go_upto_region 26 with (go_at_call 17; refine HO2.out.mono ?_; rintro e wb ⟨pq, oq, rfl, hrb, npb, nob, hbb⟩; rw [← HL.out] at hrb)
        have HRB := hid hrb
        have HNB := hid (And.intro npb nob)
        have HBB := hid hbb
        clear hrb npb nob hbb HO2 d0 d1
        have HI := hid (input_on ((HDW.out.below HBA.out).below HBB.out) HNF.out)
        have hip : D2.inp = l := S9.out.ip.trans S7.out.ip
        have hci : D2.ci = 0 := S9.out.ci.trans S7.out.ci
        have hcs : D2.cs = 0 := S9.out.cs.trans S7.out.cs
        have HIP := hid (And.intro hip (And.intro hci hcs))
        clear hip hci hcs
        go_upto_region 29 with (go_at_call 18; refine HI.out.mono ?_; rintro e wc ⟨pin, rfl, hrc, npc, hbc⟩; have HRC := hid hrc; have HNC := hid npc; have HBC := hid hbc; clear hrc npc hbc HI)
        obtain ⟨x, hx⟩ : ∃ x : Rr, x = ⟨pr, some orr, none, ⟨D2.unit, some W1.blocks, L, 0, -1, [], 0⟩⟩ := ⟨_, rfl⟩
        obtain ⟨y, hy⟩ : ∃ y : Rr, y = ⟨pq, some oq, none, ⟨D2.unit, some W1.blocks, L, 0, -1, [], 0⟩⟩ := ⟨_, rfl⟩
        obtain ⟨z, hz⟩ : ∃ z : Rr, z = ⟨pin, none, none, ⟨D2.unit, none, L, 0, -1, [], 0⟩⟩ := ⟨_, rfl⟩
        have hxr : ROn wa x.p d x.oc x.o x.R D2 l := by rw [hx]; exact HRA.out
        have hyr : ROn wb y.p d y.oc y.o y.R D2 l := by rw [hy]; exact HRB.out
        have hzr : ROn wc z.p d z.oc z.o z.R D2 l := by
          have := HRC.out
          rw [HIP.out.1, ← HL.out] at this
          rw [hz]
          exact this
        have nx : ∀ k, x.S k → W.heap.size ≤ k := fun k hk => by
          rw [hx] at hk
          rcases hk with e | e | e
          · rw [e]; exact HNA.out.1
          · have e' : orr = k := Option.some.inj e
            rw [← e']
            exact HNA.out.2
          · cases e
        have ny : ∀ k, y.S k → wa.heap.size ≤ k := fun k hk => by
          rw [hy] at hk
          rcases hk with e | e | e
          · rw [e]; exact HNB.out.1
          · have e' : oq = k := Option.some.inj e
            rw [← e']
            exact HNB.out.2
          · cases e
        have nz : ∀ k, z.S k → wb.heap.size ≤ k := fun k hk => by
          rw [hz] at hk
          rcases hk with e | e | e
          · rw [e]; exact HNC.out
          · cases e
          · cases e
        have hwl : w10.heap.size ≤ W.heap.size := HYF.out.bw.size
        have hab := HBA.out.size
        have hbc := HBB.out.size
        have hcd := HBC.out.size
        have hT : T3 wc d D2 w.heap.size 0 l x y z := T3.mk3 hxr (HBB.out) hyr ny HBC.out hzr nz (fun k hk => Nat.le_trans HBW.out.size (nx k hk)) (fun k hk => (HNX.out.2.2.2 k hk).1) (Nat.le_trans HBW.out.size hab) ⟨by rw [HIP.out.2.1]; omega, by rw [HIP.out.2.1]; omega⟩ ⟨by rw [HIP.out.2.2]; omega, by rw [HIP.out.2.2]; omega⟩
        have hna : ∀ k, A3 d x y z k → W.heap.size ≤ k ∨ d.S k := fun k hk => by
          rcases hk with e | e | e | e
          · exact .inl (nx k e)
          · exact .inl (Nat.le_trans hab (ny k e))
          · exact .inl (Nat.le_trans hab (Nat.le_trans hbc (nz k e)))
          · exact .inr e
        have HPX : Hid (x.p = pr ∧ y.p = pq ∧ z.p = pin ∧ x.R.pos = 0 ∧ y.R.pos = 0 ∧ z.R.pos = 0) := hid (by rw [hx, hy, hz]; exact ⟨rfl, rfl, rfl, rfl, rfl, rfl⟩)
        have HT := hid hT
        have HNA2 := hid hna
        have hbx : Below W.heap.size W wc := (HBA.out.trans (HBB.out.mono hab)).trans (HBC.out.mono (Nat.le_trans hab hbc))
        have HBWC := hid hbx
        have HBC0 := hid (HBW.out.trans (hbx.mono HBW.out.size))
        clear hx hy hz hxr hyr hzr nx ny nz hwl hab hbc hcd hT hna hbx HRA HRB HRC
        have HXC := hid ((HBWC.out.block t10 (blk_lt HXW.out)).trans HXW.out)
        have c0 : wc.cell? ⟨t10, 0, none⟩ = some (.slice (some ⟨xb, 0, none⟩) q cv) := (blk_cell HXC.out 0).trans rfl
        have HVC : Hid (wc.ownsRow 0 3 1 (.slice (some ⟨xb, 0, none⟩) q cv) q (cellsN W1.blocks)) := hid (by
          have := own_same HVW.out (w' := wc) fun k hk => by cases hk; exact HBWC.out.block _ (Nat.lt_of_lt_of_le HXB.out.1 HYF.out.bw.size)
          rw [HBL.out] at this
          exact this)
        go_wp2_with fail
        go_loopg [157] q (fun gh s157 wr => ∃ (k : Nat) (xs : List Value), q - k = gh ∧ k ≤ q ∧ s157 = .int .i64 (k : Int) ∧ Hid (wr.ownsRow 0 3 1 (.slice (some ⟨xb, 0, none⟩) q cv) q xs) ∧ Hid (Upd (fun j => j = xb) wc wr))
        case atStart => exact ⟨0, _, rfl, Nat.zero_le _, rfl, HVC, hid (Upd.refl _ _)⟩
        case round =>
          obtain ⟨k, xs, rfl, hk, rfl, HXS, HUX⟩ := hrel
          have c0r := (HUX.out.cell (p := ⟨t10, 0, none⟩) (blk_lt HXC.out) (by have := HNX.out; show ¬ t10 = xb; omega)).trans c0
          clear c0
          by_cases hkq : k < q
          · have hxlen : xs.length = q := by have := HXS.out.1; omega
            have cx := HXS.out.cells (g := xb) rfl k _ (List.getElem?_eq_getElem (show k < xs.length by omega))
            rw [Addr.add_lit, Nat.zero_add] at cx
            obtain ⟨xv, hxv⟩ : ∃ xv, xv = xs[k]'(by omega) := ⟨_, rfl⟩
            rw [← hxv] at cx
            have fx : wr.frozen? ⟨xb, k, none⟩ = false := by
              rcases HXS.out.2 with ⟨hh, _⟩ | ⟨b, cap', cur, hh, _, hg, _⟩
              · cases hh
              · cases hh
                exact blk_free hg k
            have hkqI : (k : Int) < (q : Int) := by omega
            have hk1 : (k : Int) + 1 ≤ 9223372036854775807 := by have := HG.out; have := HQ.out; omega
            have HKQ := hid hkq
            clear hkq hk hxv hxlen
            go_wp2_with fail
            go_roundg (q - (k + 1))
            case measure => have := HKQ.out; omega
            case rel => exact ⟨k + 1, xs.set k _, rfl, HKQ.out, by go_num, hid (row_put HXS.out HKQ.out _), hid (HUX.out.setCell (p := ⟨xb, k, none⟩) (fun _ => rfl) _)⟩
          · have hke : ¬ (k : Int) < (q : Int) := by omega
            clear hk hkq
            go_upto_region 34 with fail
            clear c0r
            have hnx : ∀ k, A3 d x y z k → ¬ k = xb := fun k hk e => by
              have h1 := HXB.out.1
              have h2 := HYF.out.bw.size
              rcases HNA2.out k hk with e' | e'
              · omega
              · exact HNX.out.2.2.1 (by rw [← e]; exact e')
            have HT0 := hid (HT.out.upd HUX.out hnx)
            have hb34 : Below w.heap.size w wr := HBC0.out.trans (HUX.out.below (B := w.heap.size) HBC0.out.size fun k e => by rw [e]; exact HNX.out.1)
            have HB34 := hid hb34
            have hyt : t12 < W.heap.size := blk_lt HYF.out.hy
            have HY34 : Hid (wr.heap[t12]? = some (.cells #[.slice (some ⟨yg, 0, none⟩) q yc, .int .i64 (L : Int)] 39 (0, 0)) ∧ ¬ A3 d x y z t12 ∧ t12 < wr.heap.size) := hid (by
              have h1 := (HBWC.out.block t12 hyt).trans HYF.out.hy
              have h2 := HXB.out
              have h3 := HYF.out.nt
              have h4 := (HUX.out.block t12 (blk_lt h1) (by omega)).trans h1
              refine ⟨h4, fun hh => ?_, blk_lt h4⟩
              rcases HNA2.out _ hh with e' | e'
              · omega
              · have := (HNX.out.2.2.2 _ e').2
                omega)
            obtain ⟨M, hM⟩ : ∃ M, M = (l.take 8).length := ⟨_, rfl⟩
            have HM8 : Hid (M = (l.take 8).length ∧ 1 ≤ M ∧ M ≤ 8 ∧ M = min 8 L) := hid ⟨hM, by rw [hM, List.length_take, ← HL.out]; have := HG.out; omega, by rw [hM, List.length_take]; omega, by rw [hM, List.length_take, ← HL.out]⟩
            have hr1 : Calls Try.prog 19 #[.pointer (some ⟨pr, 0, none⟩), .int .i64 8] wr (T3Read wr d D2 w.heap.size 0 l x y z 8) := by
              rw [← HPX.out.1]
              exact T3.read HT0.out hb34.size (by omega) 8 (by omega)
            have HR1 := hid hr1
            clear hnx hb34 hyt hM hr1
            go_upto_region 35 with (go_at_call 19; refine HR1.out.mono ?_; rintro e wd ⟨va, x1, D3, rfl, hxp, hxq, hva, hvn, hT1, hu1, hk1⟩; rw [HPX.out.2.2.2.1, List.drop_zero, ← HM8.out.1] at hva; obtain ⟨ga, ca, rfl⟩ := row_some hva HM8.out.2.1)
            have HVA := hid hva
            have HGA := hid (hvn ga rfl)
            have HT1 := hid hT1
            have HX1 : Hid (x1.p = pr ∧ x1.R.pos = M) := hid ⟨hxp.trans HPX.out.1, by rw [hxq, HPX.out.2.2.2.1, ← HL.out, HM8.out.2.2.2]; omega⟩
            have HB35 := hid (HB34.out.trans (hu1.below (B := w.heap.size) HB34.out.size HT0.out.nw))
            have HY35 : Hid (wd.heap[t12]? = some (.cells #[.slice (some ⟨yg, 0, none⟩) q yc, .int .i64 (L : Int)] 39 (0, 0)) ∧ ¬ A3 d y z x1 t12 ∧ t12 < wd.heap.size) := hid (by
              obtain ⟨k1, k2, k3⟩ := hk1 t12 HY34.out.2.2 HY34.out.2.1
              exact ⟨k1.trans HY34.out.1, k3, k2⟩)
            have hr2 : Calls Try.prog 19 #[.pointer (some ⟨pq, 0, none⟩), .int .i64 8] wd (T3Read wd d D3 w.heap.size (0 + l.length + 1) l y z x1 8) := by
              rw [← HPX.out.2.1]
              exact T3.read hT1 HB35.out.size (by rw [← HL.out]; have := HG.out; omega) 8 (by omega)
            have HR2 := hid hr2
            clear hxp hxq hva hvn hT1 hu1 hk1 hr2 HR1
            go_upto_region 36 with (go_at_call 19; refine HR2.out.mono ?_; rintro e we ⟨vb, y1, D4, rfl, hxp, hxq, hva, hvn, hT1, hu1, hk1⟩; rw [HPX.out.2.2.2.2.1, List.drop_zero, ← HM8.out.1] at hva; obtain ⟨gb, cb, rfl⟩ := row_some hva HM8.out.2.1)
            have HVB := hid hva
            have HGB := hid (hvn gb rfl)
            have HT2 := hid hT1
            have HY1 : Hid (y1.p = pq ∧ y1.R.pos = M) := hid ⟨hxp.trans HPX.out.2.1, by rw [hxq, HPX.out.2.2.2.2.1, ← HL.out, HM8.out.2.2.2]; omega⟩
            have HB36 := hid (HB35.out.trans (hu1.below (B := w.heap.size) HB35.out.size HT1.out.nw))
            have HY36 : Hid (we.heap[t12]? = some (.cells #[.slice (some ⟨yg, 0, none⟩) q yc, .int .i64 (L : Int)] 39 (0, 0)) ∧ ¬ A3 d z x1 y1 t12 ∧ t12 < we.heap.size) := hid (by
              obtain ⟨k1, k2, k3⟩ := hk1 t12 HY35.out.2.2 HY35.out.2.1
              exact ⟨k1.trans HY35.out.1, k3, k2⟩)
            have HVA2 : Hid (we.ownsRow 0 5 1 (.slice (some ⟨ga, 0, none⟩) M ca) M (cellsB (l.take 8)) ∧ ¬ A3 d z x1 y1 ga ∧ ga < we.heap.size) := hid (by
              obtain ⟨k1, k2, k3⟩ := hk1 ga HGA.out.2.1 HGA.out.2.2
              exact ⟨own_same HVA.out fun k hk => (by cases hk; exact k1), k3, k2⟩)
            have hr3 : Calls Try.prog 19 #[.pointer (some ⟨pin, 0, none⟩), .int .i64 8] we (T3Read we d D4 w.heap.size (0 + l.length + 1 + l.length + 1) l z x1 y1 8) := by
              rw [← HPX.out.2.2.1]
              exact T3.read hT1 HB36.out.size (by rw [← HL.out]; have := HG.out; omega) 8 (by omega)
            have HR3 := hid hr3
            clear hxp hxq hva hvn hT1 hu1 hk1 hr3 HR2
            go_upto_region 37 with (go_at_call 19; refine HR3.out.mono ?_; rintro e wf ⟨vc, z1, D5, rfl, hxp, hxq, hva, hvn, hT1, hu1, hk1⟩; rw [HPX.out.2.2.2.2.2, List.drop_zero, ← HM8.out.1] at hva; obtain ⟨gc, cc, rfl⟩ := row_some hva HM8.out.2.1)
            have HVC3 : Hid (wf.ownsRow 0 5 1 (.slice (some ⟨gc, 0, none⟩) M cc) M (cellsB (l.take 8)) ∧ ¬ A3 d x1 y1 z1 gc ∧ gc < wf.heap.size) := hid ⟨hva, (hvn gc rfl).2.2, (hvn gc rfl).2.1⟩
            have HT3 := hid hT1
            have HZ1 : Hid (z1.p = pin ∧ z1.R.pos = M) := hid ⟨hxp.trans HPX.out.2.2.1, by rw [hxq, HPX.out.2.2.2.2.2, ← HL.out, HM8.out.2.2.2]; omega⟩
            have HB37 := hid (HB36.out.trans (hu1.below (B := w.heap.size) HB36.out.size HT2.out.nw))
            have HY37 : Hid (wf.heap[t12]? = some (.cells #[.slice (some ⟨yg, 0, none⟩) q yc, .int .i64 (L : Int)] 39 (0, 0)) ∧ ¬ A3 d x1 y1 z1 t12 ∧ t12 < wf.heap.size) := hid (by
              obtain ⟨k1, k2, k3⟩ := hk1 t12 HY36.out.2.2 HY36.out.2.1
              exact ⟨k1.trans HY36.out.1, k3, k2⟩)
            have HVA3 : Hid (wf.ownsRow 0 5 1 (.slice (some ⟨ga, 0, none⟩) M ca) M (cellsB (l.take 8)) ∧ ¬ A3 d x1 y1 z1 ga ∧ ga < wf.heap.size) := hid (by
              obtain ⟨k1, k2, k3⟩ := hk1 ga HVA2.out.2.2 HVA2.out.2.1
              exact ⟨own_same HVA2.out.1 fun k hk => (by cases hk; exact k1), k3, k2⟩)
            have HVB3 : Hid (wf.ownsRow 0 5 1 (.slice (some ⟨gb, 0, none⟩) M cb) M (cellsB (l.take 8)) ∧ ¬ A3 d x1 y1 z1 gb ∧ gb < wf.heap.size) := hid (by
              obtain ⟨k1, k2, k3⟩ := hk1 gb HGB.out.2.1 HGB.out.2.2
              exact ⟨own_same HVB.out fun k hk => (by cases hk; exact k1), k3, k2⟩)
            have HNE : Hid (w.heap.size ≤ ga ∧ w.heap.size ≤ gb ∧ w.heap.size ≤ gc ∧ ga < gb ∧ gb < gc ∧ t12 < ga) := hid ⟨Nat.le_trans HB34.out.size HGA.out.1, Nat.le_trans HB35.out.size HGB.out.1, Nat.le_trans HB36.out.size (hvn gc rfl).1, Nat.lt_of_lt_of_le HGA.out.2.1 HGB.out.1, Nat.lt_of_lt_of_le HGB.out.2.1 (hvn gc rfl).1, Nat.lt_of_lt_of_le HY34.out.2.2 HGA.out.1⟩
            clear hxp hxq hva hvn hT1 hu1 hk1 HR3
            have hya := own_bytes HVA3.out.1 HM8.out.1
            have hyb := own_bytes HVB3.out.1 HM8.out.1
            have hyc := own_bytes HVC3.out.1 HM8.out.1
            have hyl := HIN.out.below HB37.out
            have hyt : BytesIn wf a (l.take 8) := fun hne => by
              obtain ⟨b, x0, e, hb, hc⟩ := hyl (fun e => hne (by rw [e]; rfl))
              exact ⟨b, x0, e, hb, fun i hi => by
                rw [List.length_take] at hi
                rw [List.getElem_take]
                exact hc i (by omega)⟩
            have hs1 := same_any hya hyb (by rw [← HM8.out.1]; have := HM8.out; omega) (by rw [← HM8.out.1]; have := HM8.out; omega) ca cb
            have hs2 := same_any hya hyc (by rw [← HM8.out.1]; have := HM8.out; omega) (by rw [← HM8.out.1]; have := HM8.out; omega) ca cc
            have hs3 := same_any hya hyt (by rw [← HM8.out.1]; have := HM8.out; omega) (by rw [← HM8.out.1]; have := HM8.out; omega) ca cap
            rw [decide_eq_true (Eq.refl (l.take 8)), ← HM8.out.1] at hs1 hs2 hs3
            have HS1 := hid hs1
            have HS2 := hid hs2
            have HS3 := hid hs3
            clear hya hyb hyc hyl hyt hs1 hs2 hs3
            have hm1 : (if (L : Int) < 8 then (L : Int) else 8) = (M : Int) := by have := HM8.out; split <;> omega
            have hm2 : (if L < 8 then (L : Int) else 8) = (M : Int) := by have := HM8.out; split <;> omega
            have hmc : M ≤ cap := by have := HM8.out; have := HCP.out; omega
            have hmn : ¬ cap < M := by omega
            go_upto_region 39 with (first | (go_at_call 15; refine HS1.out.mono ?_; rintro e wq ⟨rfl, hq'⟩; rw [hq']; clear hq' wq HS1) | (go_at_call 15; refine HS2.out.mono ?_; rintro e wq ⟨rfl, hq'⟩; rw [hq']; clear hq' wq HS2) | (go_at_call 15; refine HS3.out.mono ?_; rintro e wq ⟨rfl, hq'⟩; rw [hq']; clear hq' wq HS3))
            clear hm1 hm2 hmc hmn
            obtain ⟨gf, rfl, rfl, rfl⟩ : ∃ gf : Nat → Nat, gf 0 = ga ∧ gf 1 = gb ∧ gf 2 = gc := ⟨fun j => if j = 0 then ga else if j = 1 then gb else gc, rfl, rfl, rfl⟩
            obtain ⟨cf, rfl, rfl, rfl⟩ : ∃ cf : Nat → Nat, cf 0 = ca ∧ cf 1 = cb ∧ cf 2 = cc := ⟨fun j => if j = 0 then ca else if j = 1 then cb else cc, rfl, rfl, rfl⟩
            go_upto_region 40 with fail
            have hal := (Below.refl _ wf).alloc (Nat.le_refl _) (.cells #[.slice (some ⟨gf 0, 0, none⟩) M (cf 0), .slice (some ⟨gf 1, 0, none⟩) M (cf 1), .slice (some ⟨gf 2, 0, none⟩) M (cf 2)] 22)
            have X := heap_alloc_new wf (.cells #[.slice (some ⟨gf 0, 0, none⟩) M (cf 0), .slice (some ⟨gf 1, 0, none⟩) M (cf 1), .slice (some ⟨gf 2, 0, none⟩) M (cf 2)] 22)
            obtain ⟨wl, hwl⟩ : ∃ wl, wf.alloc (.cells #[.slice (some ⟨gf 0, 0, none⟩) M (cf 0), .slice (some ⟨gf 1, 0, none⟩) M (cf 1), .slice (some ⟨gf 2, 0, none⟩) M (cf 2)] 22) = wl := ⟨_, rfl⟩
            obtain ⟨lb, hlb⟩ : ∃ lb, lb = wf.heap.size := ⟨_, rfl⟩
            rw [hwl] at hal X
            rw [← hlb] at X
            rw [hwl, ← hlb]
            have g3 : ∀ j, j < 3 → j = 0 ∨ j = 1 ∨ j = 2 := fun j hj => by omega
            have hrow : ∀ j, j < 3 → wl.ownsRow 0 5 1 (.slice (some ⟨gf j, 0, none⟩) M (cf j)) M (cellsB (l.take 8)) ∧ ¬ A3 d x1 y1 z1 (gf j) ∧ gf j < lb ∧ w.heap.size ≤ gf j := fun j hj => by
              rcases g3 j hj with rfl | rfl | rfl
              · exact ⟨own_same HVA3.out.1 fun k hk => (by cases hk; exact hal.block _ HVA3.out.2.2), HVA3.out.2.1, by have := HVA3.out.2.2; omega, HNE.out.1⟩
              · exact ⟨own_same HVB3.out.1 fun k hk => (by cases hk; exact hal.block _ HVB3.out.2.2), HVB3.out.2.1, by have := HVB3.out.2.2; omega, HNE.out.2.1⟩
              · exact ⟨own_same HVC3.out.1 fun k hk => (by cases hk; exact hal.block _ HVC3.out.2.2), HVC3.out.2.1, by have := HVC3.out.2.2; omega, HNE.out.2.2.1⟩
            have hR : Rows3 wl lb M gf cf (fun _ => l.take 8) := ⟨X, fun j hj => ⟨(hrow j hj).1, HM8.out.1⟩, fun j k hj hk hne e => by
              have h1 := HNE.out.2.2.2.1
              have h2 := HNE.out.2.2.2.2.1
              rcases g3 j hj with rfl | rfl | rfl <;> rcases g3 k hk with rfl | rfl | rfl <;> omega, fun j hj => by have := (hrow j hj).2.2.1; omega⟩
            have HRW := hid hrow
            have HR0 : Hid (Rows3 wl lb M gf cf (mk3 (l.take 8) 0 0)) := hid (by rw [mk3_zero]; exact hR)
            have HTL := hid (HT3.out.below hal)
            have HBL2 := hid (HB37.out.trans (hal.mono HB37.out.size))
            have HYL2 : Hid (wl.heap[t12]? = some (.cells #[.slice (some ⟨yg, 0, none⟩) q yc, .int .i64 (L : Int)] 39 (0, 0)) ∧ ¬ A3 d x1 y1 z1 t12 ∧ ∀ j, j < 3 → ¬ t12 = gf j) := hid ⟨(hal.block _ HY37.out.2.2).trans HY37.out.1, HY37.out.2.1, fun j hj => by
              have h1 := HNE.out.2.2.2.1
              have h2 := HNE.out.2.2.2.2
              rcases g3 j hj with rfl | rfl | rfl <;> omega⟩
            clear hal X hwl hlb g3 hrow hR
            go_wp2_with fail
            go_loopg [206] 3 (fun gh s206 wr => ∃ i : Nat, 3 - i = gh ∧ i ≤ 3 ∧ s206 = .int .i64 (i : Int) ∧ Hid (Rows3 wr lb M gf cf (mk3 (l.take 8) i 0)) ∧ Hid (Upd (fun k => ∃ j, j < 3 ∧ k = gf j) wl wr))
            case atStart => exact ⟨0, rfl, by omega, rfl, HR0, hid (Upd.refl _ _)⟩
            case round =>
              obtain ⟨i, rfl, hi, rfl, HR, HU6⟩ := hrel
              by_cases hi3 : i < 3
              · have cl := Rows3.at HR.out.lst hi3
                have hi3I : (i : Int) < 3 := by omega
                have hw1 : IntKind.i64.wrap ((i : Int) + 1) = (i : Int) + 1 := wrap_id (by omega) (by omega)
                have hw8 : IntKind.u8.wrap ((i : Int) + 1) = (i : Int) + 1 := by rw [IntKind.wrap_u8]; omega
                have hw9 : ((i : Int) + 1) % 256 = (i : Int) + 1 := by omega
                have HI3 := hid hi3
                clear hi hi3
                go_wp2_with fail
                go_loopg [213] M (fun gh s213 wr => ∃ k : Nat, M - k = gh ∧ k ≤ M ∧ s213 = .int .i64 (k : Int) ∧ Hid (Rows3 wr lb M gf cf (mk3 (l.take 8) i k)) ∧ Hid (Upd (fun k => ∃ j, j < 3 ∧ k = gf j) wl wr))
                case atStart => exact ⟨0, rfl, Nat.zero_le _, rfl, HR, HU6⟩
                case round =>
                  obtain ⟨k, rfl, hk, rfl, HR, HU6⟩ := hrel
                  by_cases hkm : k < M
                  · have hrw := HR.out.row i HI3.out
                    have hkl : k < (mk3 (l.take 8) i k i).length := by rw [← hrw.2]; exact hkm
                    have cx := hrw.1.cells (g := gf i) rfl k _ (cellsB_get _ k hkl)
                    rw [Addr.add_lit, Nat.zero_add] at cx
                    obtain ⟨xv, hxv⟩ : ∃ xv, xv = (mk3 (l.take 8) i k i)[k] := ⟨_, rfl⟩
                    rw [← hxv] at cx
                    have fx : wr.frozen? ⟨gf i, k, none⟩ = false := by
                      rcases hrw.1.2 with ⟨hh, _⟩ | ⟨b, cap', cur, hh, _, hg, _⟩
                      · cases hh
                      · cases hh
                        exact blk_free hg k
                    have hkI : (k : Int) < (M : Int) := by omega
                    have hk1 : (k : Int) + 1 ≤ 9223372036854775807 := by have := HM8.out; omega
                    have HKM := hid hkm
                    clear hkm hk hrw hkl hxv
                    go_wp2_with fail
                    go_roundg (M - (k + 1))
                    case measure => have := HKM.out; omega
                    case rel => exact ⟨k + 1, rfl, HKM.out, by go_num, hid (HR.out.mark HM8.out.1 HI3.out HKM.out), hid (HU6.out.setCell (p := ⟨gf i, k, none⟩) (fun _ => ⟨i, HI3.out, rfl⟩) _)⟩
                  · have hke : k = M := by omega
                    have HR9 : Hid (Rows3 wr lb M gf cf (mk3 (l.take 8) (i + 1) 0)) := hid (by
                      have := HR.out
                      rw [hke, HM8.out.1, mk3_next] at this
                      rw [HM8.out.1]
                      exact this)
                    have hkI : ¬ (k : Int) < (M : Int) := by omega
                    clear hke hk hkm
                    go_wp2_with fail
                    go_roundg (3 - (i + 1))
                    case measure => have := HI3.out; omega
                    case rel => exact ⟨i + 1, rfl, HI3.out, by go_num, HR9, HU6⟩
              · have hi3' : 3 = i := by omega
                subst hi3'
                clear hi hi3
                go_upto_region 49 with fail
                have HM0 : Hid (Mid wr lb M gf cf (mk3 (l.take 8) 3 0) 0) := hid HR.out.mid
                go_wp2_with fail
                go_loopg [226] 3 (fun gh s226 wr => ∃ i : Nat, 3 - i = gh ∧ i ≤ 3 ∧ s226 = .int .i64 (i : Int) ∧ Hid (Mid wr lb M gf cf (mk3 (l.take 8) 3 0) i) ∧ Hid (Upd (fun k => ∃ j, j < 3 ∧ k = gf j) wl wr))
                case atStart => exact ⟨0, rfl, by omega, rfl, HM0, HU6⟩
                case round =>
                  obtain ⟨i, rfl, hi, rfl, HMI, HU7⟩ := hrel
                  by_cases hi3 : i < 3
                  · have cl := mid_same HMI.out hi3
                    have hi3I : (i : Int) < 3 := by omega
                    have hw1 : IntKind.i64.wrap (50 + (i : Int)) = 50 + (i : Int) := wrap_id (by omega) (by omega)
                    have hw8 : IntKind.u8.wrap (50 + (i : Int)) = 50 + (i : Int) := by rw [IntKind.wrap_u8]; omega
                    have hw9 : (50 + (i : Int)) % 256 = 50 + (i : Int) := by omega
                    have HI3 := hid hi3
                    have HAP0 := hid (HMI.out.app hi3)
                    clear hi hi3
                    go_wp2_with fail
                    go_loopg [30, 31] 40 (fun gh s30 s31 wr' => ∃ (k : Nat) (a' : Option Addr) (n' c' : Nat) (ex : List Int), 40 - k = gh ∧ k ≤ 40 ∧ s31 = .int .i64 (k : Int) ∧ s30 = .slice a' n' c' ∧ Hid (n' = M + k ∧ App wr wr' (gf i) (mk3 (l.take 8) 3 0 i) a' n' c' ex))
                    case atStart => exact ⟨0, _, _, _, _, rfl, by omega, rfl, rfl, hid ⟨rfl, HAP0.out⟩⟩
                    case round =>
                      obtain ⟨k, a', n', c', ex, rfl, hk, rfl, rfl, HAP⟩ := hrel
                      by_cases hk40 : k < 40
                      · have hkI : (k : Int) < 40 := by omega
                        obtain ⟨a2, c2, w2, hrun, hap⟩ := HAP.out.2.step (by have := HAP.out.1; have := HM8.out; omega) (50 + (i : Int))
                        have HAP2 := hid hap
                        have HK4 := hid hk40
                        clear hap hk hk40
                        go_wp2_with (at_builtin; refine wpList_append_run _ rfl (.tmp 235) (.tmp 239) 22 22 rfl _ _ rfl rfl hrun ?_)
                        go_roundg (40 - (k + 1))
                        case measure => have := HK4.out; omega
                        case rel => exact ⟨k + 1, a2, n' + 1, c2, _, rfl, HK4.out, by go_num, rfl, hid ⟨by have := HAP.out.1; omega, HAP2.out⟩⟩
                      · have hkI : ¬ (k : Int) < 40 := by omega
                        clear hk hk40
                        go_wp2_with fail
                        go_roundg (3 - (i + 1))
                        case measure => have := HI3.out; omega
                        case rel => exact ⟨i + 1, rfl, HI3.out, by go_num, hid (HMI.out.next HI3.out HAP.out.2), hid (HU7.out.trans HAP.out.2.up fun k _ e => ⟨i, HI3.out, e⟩)⟩
                  · have hi3' : 3 = i := by omega
                    subst hi3'
                    clear hi hi3
                    go_upto_region 57 with fail
                    obtain ⟨wm, hwm⟩ : ∃ wm, wr = wm := ⟨_, rfl⟩
                    rw [hwm] at HMI HU7 ⊢
                    clear hwm
                    have HT9 := hid (HTL.out.upd HU7.out (fun k hk => fun ⟨j, hj, e⟩ => (HRW.out j hj).2.1 (by rw [← e]; exact hk)))
                    have HB9' := hid (HBL2.out.trans (HU7.out.below (B := w.heap.size) HBL2.out.size fun k ⟨j, hj, e⟩ => by rw [e]; exact (HRW.out j hj).2.2.2))
                    have HY9 : Hid (wm.heap[t12]? = some (.cells #[.slice (some ⟨yg, 0, none⟩) q yc, .int .i64 (L : Int)] 39 (0, 0)) ∧ ¬ A3 d x1 y1 z1 t12 ∧ t12 < wm.heap.size) := hid (by
                      have h4 := (HU7.out.block t12 (blk_lt HYL2.out.1) (fun ⟨j, hj, e⟩ => HYL2.out.2.2 j hj e)).trans HYL2.out.1
                      exact ⟨h4, HYL2.out.2.1, blk_lt h4⟩)
                    go_wp2_with fail
                    go_loopg [244] 3 (fun gh s244 wr => ∃ i : Nat, 3 - i = gh ∧ i ≤ 3 ∧ s244 = .int .i64 (i : Int) ∧ wm = wr)
                    case atStart => exact ⟨0, rfl, by omega, rfl, rfl⟩
                    case round =>
                      obtain ⟨i, rfl, hi, rfl, rfl⟩ := hrel
                      by_cases hi3 : i < 3
                      · have cl := mid_same HMI.out hi3
                        have hi3I : (i : Int) < 3 := by omega
                        have hw1 : IntKind.i64.wrap ((i : Int) + 1) = (i : Int) + 1 := wrap_id (by omega) (by omega)
                        have hw8 : IntKind.u8.wrap ((i : Int) + 1) = (i : Int) + 1 := by rw [IntKind.wrap_u8]; omega
                        have hw9 : ((i : Int) + 1) % 256 = (i : Int) + 1 := by omega
                        have HI3 := hid hi3
                        clear hi hi3
                        go_wp2_with fail
                        go_loopg [251] M (fun gh s251 wr => ∃ k : Nat, M - k = gh ∧ k ≤ M ∧ s251 = .int .i64 (k : Int) ∧ wm = wr)
                        case atStart => exact ⟨0, rfl, Nat.zero_le _, rfl, rfl⟩
                        case round =>
                          obtain ⟨k, rfl, hk, rfl, rfl⟩ := hrel
                          by_cases hkm : k < M
                          · have cx := HMI.out.get HM8.out.1 HI3.out hkm
                            have hkI : (k : Int) < (M : Int) := by omega
                            have hk1 : (k : Int) + 1 ≤ 9223372036854775807 := by have := HM8.out; omega
                            have HKM := hid hkm
                            clear hkm hk
                            go_wp2_with fail
                            go_roundg (M - (k + 1))
                            case measure => have := HKM.out; omega
                            case rel => exact ⟨k + 1, rfl, HKM.out, by go_num, rfl⟩
                          · have hkI : ¬ (k : Int) < (M : Int) := by omega
                            clear hk hkm
                            go_wp2_with fail
                            go_roundg (3 - (i + 1))
                            case measure => have := HI3.out; omega
                            case rel => exact ⟨i + 1, rfl, HI3.out, by go_num, rfl⟩
                      · have hi3' : 3 = i := by omega
                        subst hi3'
                        clear hi hi3
                        go_upto_region 67 with fail
                        obtain ⟨R, hR⟩ : ∃ R, R = (l.drop M).length := ⟨_, rfl⟩
                        have HRS : Hid (R = (l.drop M).length ∧ R = L - M ∧ (l.drop M).take 64 = l.drop M) := hid ⟨hR, by rw [hR, List.length_drop, ← HL.out], List.take_of_length_le (by rw [List.length_drop, ← HL.out]; have := HG.out; omega)⟩
                        have hr1 : Calls Try.prog 19 #[.pointer (some ⟨pr, 0, none⟩), .int .i64 64] wm (T3Read wm d D5 w.heap.size (0 + l.length + 1 + l.length + 1 + l.length + 1) l x1 y1 z1 64) := by
                          rw [← HX1.out.1]
                          exact T3.read HT9.out HB9'.out.size (by rw [← HL.out]; have := HG.out; omega) 64 (by omega)
                        have HR1 := hid hr1
                        clear hR hr1
                        go_upto_region 68 with (go_at_call 19; refine HR1.out.mono ?_; rintro e wn ⟨va, x2, D6, rfl, hxp, hxq, hva, hvn, hT1, hu1, hk1⟩; rw [HX1.out.2, HRS.out.2.2, ← HRS.out.1] at hva; obtain ⟨aa, ca, rfl⟩ := own_slc hva)
                        have HVA := hid (And.intro hva hvn)
                        have HT1' := hid hT1
                        have HB68 := hid (HB9'.out.trans (hu1.below (B := w.heap.size) HB9'.out.size HT9.out.nw))
                        have HY68 : Hid (wn.heap[t12]? = some (.cells #[.slice (some ⟨yg, 0, none⟩) q yc, .int .i64 (L : Int)] 39 (0, 0)) ∧ ¬ A3 d y1 z1 x2 t12 ∧ t12 < wn.heap.size) := hid (by
                          obtain ⟨k1, k2, k3⟩ := hk1 t12 HY9.out.2.2 HY9.out.2.1
                          exact ⟨k1.trans HY9.out.1, k3, k2⟩)
                        have hr2 : Calls Try.prog 19 #[.pointer (some ⟨pq, 0, none⟩), .int .i64 64] wn (T3Read wn d D6 w.heap.size (0 + l.length + 1 + l.length + 1 + l.length + 1 + l.length + 1) l y1 z1 x2 64) := by
                          rw [← HY1.out.1]
                          exact T3.read hT1 HB68.out.size (by rw [← HL.out]; have := HG.out; omega) 64 (by omega)
                        have HR2 := hid hr2
                        clear hxp hxq hva hvn hT1 hu1 hk1 hr2 HR1
                        go_upto_region 69 with (go_at_call 19; refine HR2.out.mono ?_; rintro e wo ⟨vb, y2, D7, rfl, hxp, hxq, hva, hvn, hT1, hu1, hk1⟩; rw [HY1.out.2, HRS.out.2.2, ← HRS.out.1] at hva; obtain ⟨ab, cb, rfl⟩ := own_slc hva)
                        have HVB := hid (And.intro hva hvn)
                        have HT2' := hid hT1
                        have HB69 := hid (HB68.out.trans (hu1.below (B := w.heap.size) HB68.out.size HT1'.out.nw))
                        have HY69 : Hid (wo.heap[t12]? = some (.cells #[.slice (some ⟨yg, 0, none⟩) q yc, .int .i64 (L : Int)] 39 (0, 0)) ∧ ¬ A3 d z1 x2 y2 t12 ∧ t12 < wo.heap.size) := hid (by
                          obtain ⟨k1, k2, k3⟩ := hk1 t12 HY68.out.2.2 HY68.out.2.1
                          exact ⟨k1.trans HY68.out.1, k3, k2⟩)
                        have HVA2 : Hid (wo.ownsRow 0 5 1 (.slice aa R ca) R (cellsB (l.drop M)) ∧ ∀ k, (Value.slice aa R ca).ownBlock = some k → k < wo.heap.size ∧ ¬ A3 d z1 x2 y2 k) := hid ⟨own_same HVA.out.1 fun k hk => (hk1 k (HVA.out.2 k hk).2.1 (HVA.out.2 k hk).2.2).1, fun k hk => (hk1 k (HVA.out.2 k hk).2.1 (HVA.out.2 k hk).2.2).2⟩
                        have hr3 : Calls Try.prog 19 #[.pointer (some ⟨pin, 0, none⟩), .int .i64 64] wo (T3Read wo d D7 w.heap.size (0 + l.length + 1 + l.length + 1 + l.length + 1 + l.length + 1 + l.length + 1) l z1 x2 y2 64) := by
                          rw [← HZ1.out.1]
                          exact T3.read hT1 HB69.out.size (by rw [← HL.out]; have := HG.out; omega) 64 (by omega)
                        have HR3 := hid hr3
                        clear hxp hxq hva hvn hT1 hu1 hk1 hr3 HR2
                        go_upto_region 70 with (go_at_call 19; refine HR3.out.mono ?_; rintro e wp ⟨vc, z2, D8, rfl, hxp, hxq, hva, hvn, hT1, hu1, hk1⟩; rw [HZ1.out.2, HRS.out.2.2, ← HRS.out.1] at hva; obtain ⟨ac, cc, rfl⟩ := own_slc hva)
                        have HB70 := hid (HB69.out.trans (hu1.below (B := w.heap.size) HB69.out.size HT2'.out.nw))
                        have HY70 : Hid (wp.heap[t12]? = some (.cells #[.slice (some ⟨yg, 0, none⟩) q yc, .int .i64 (L : Int)] 39 (0, 0))) := hid ((hk1 t12 HY69.out.2.2 HY69.out.2.1).1.trans HY69.out.1)
                        have hya := own_bytes (own_same HVA2.out.1 fun k hk => (hk1 k (HVA2.out.2 k hk).1 (HVA2.out.2 k hk).2).1) HRS.out.1
                        have hyb := own_bytes (own_same HVB.out.1 fun k hk => (hk1 k (HVB.out.2 k hk).2.1 (HVB.out.2 k hk).2.2).1) HRS.out.1
                        have hyc := own_bytes hva HRS.out.1
                        have hyl := HIN.out.below HB70.out
                        have HYS := hid (And.intro hya (And.intro hyb (And.intro hyc hyl)))
                        have hm1 : (if (L : Int) < 8 then (L : Int) else 8) = (M : Int) := by have := HM8.out; split <;> omega
                        have hm2 : (if L < 8 then (L : Int) else 8) = (M : Int) := by have := HM8.out; split <;> omega
                        have hmc : M ≤ L := by have := HM8.out; omega
                        have hmn : ¬ L < M := by omega
                        have hmr : L - M = R := HRS.out.2.1.symm
                        clear hxp hxq hva hvn hT1 hu1 hk1 HR3 hya hyb hyc hyl
                        go_upto_region 71 with fail
                        have hyr : BytesIn wp (if cap = M then a else Option.map (fun x => x.add M) a) (l.drop M) := fun hne => by
                          have hlt : M < L := by
                            rw [HL.out]
                            exact Nat.lt_of_not_le fun h => hne (List.drop_eq_nil_of_le h)
                          obtain ⟨b, x0, e, hb, hc⟩ := HYS.out.2.2.2 (fun e => hne (by rw [e]; simp))
                          refine ⟨b, x0 + M, by rw [if_neg (by have := HCP.out; omega), e]; show some (Addr.add _ _) = _; rw [Addr.add_lit], hb, fun i hi => ?_⟩
                          rw [List.length_drop] at hi
                          rw [List.getElem_drop, Nat.add_assoc]
                          exact hc (M + i) (by omega)
                        obtain ⟨ra, hra⟩ : ∃ ra, (if cap = M then a else Option.map (fun x => x.add M) a) = ra := ⟨_, rfl⟩
                        rw [hra] at hyr ⊢
                        obtain ⟨rc, hrc⟩ : ∃ rc, cap - M = rc := ⟨_, rfl⟩
                        rw [hrc]
                        clear hra hrc hm1 hm2 hmc hmn hmr
                        have hsl : (l.drop M).length ≤ 100000000 := by rw [← HRS.out.1]; have := HRS.out; have := HG.out; omega
                        have hs1 := same_any HYS.out.1 hyr hsl hsl ca rc
                        have hs2 := same_any HYS.out.2.1 hyr hsl hsl cb rc
                        have hs3 := same_any HYS.out.2.2.1 hyr hsl hsl cc rc
                        rw [decide_eq_true (Eq.refl (l.drop M)), ← HRS.out.1] at hs1 hs2 hs3
                        have HS1 := hid hs1
                        have HS2 := hid hs2
                        have HS3 := hid hs3
                        have e0 : wp.cell? ⟨t12, 0, none⟩ = some (.slice (some ⟨yg, 0, none⟩) q yc) := (blk_cell HY70.out 0).trans rfl
                        have hq1 : IntKind.i64.wrap ((L : Int) + 15) = (L : Int) + 15 := wrap_id (by have := HG.out; omega) (by have := HG.out; omega)
                        have hq2 : ((L : Int) + 15).tdiv 16 = (q : Int) := by
                          rw [HQ.out.1, show (L : Int) + 15 = ((L + 15 : Nat) : Int) by omega]
                          exact Int.ofNat_tdiv (L + 15) 16
                        have hq3 : IntKind.i64.wrap (q : Int) = (q : Int) := wrap_id (by omega) (by have := HG.out; have := HQ.out; omega)
                        clear hyr hsl hs1 hs2 hs3
                        go_wp2_with (first | (go_at_call 15; refine HS1.out.mono ?_; rintro e wq ⟨rfl, hq'⟩; rw [hq']; clear hq' wq HS1) | (go_at_call 15; refine HS2.out.mono ?_; rintro e wq ⟨rfl, hq'⟩; rw [hq']; clear hq' wq HS2) | (go_at_call 15; refine HS3.out.mono ?_; rintro e wq ⟨rfl, hq'⟩; rw [hq']; clear hq' wq HS3))
                        go_ret
                        exact ⟨by simp, HB70.out⟩
end Go.Proofs.Ytkhejipcclpknaa
