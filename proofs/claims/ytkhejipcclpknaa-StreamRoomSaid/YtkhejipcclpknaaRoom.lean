/- The walk of StreamRoom. No statement is proved here. -/
import Derived.Test.YtkhejipcclpknaaUG
import Derived.Test.YtkhejipcclpknaaSV
set_option linter.unusedVariables false
set_option linter.unusedSimpArgs false
namespace Go.Proofs.Ytkhejipcclpknaa
open Go.RowKit

set_option maxHeartbeats 8000000 in
set_option maxRecDepth 100000 in
theorem room_out (bl sz : Int) (w : World) (h : bl < 0 ∨ 100 < bl ∨ sz < 0 ∨ 2000 < sz) : Calls Try.prog 8 #[.int .i64 bl, .int .i64 sz] w fun e w' => e = .returned (.bool true) ∧ Below w.heap.size w w' := by
  have HA := hid (anchor_any w)
  by_cases h1 : bl < 0
  · clear h
    go_enter Try.func8, Try.ntmps8
    go_wp2_with (go_at_call 10; refine HA.out.mono ?_; rintro e w1 ⟨rfl, hb1⟩)
    go_ret
    exact ⟨rfl, hb1⟩
  by_cases h2 : 100 < bl
  · clear h
    go_enter Try.func8, Try.ntmps8
    go_wp2_with (go_at_call 10; refine HA.out.mono ?_; rintro e w1 ⟨rfl, hb1⟩)
    go_ret
    exact ⟨rfl, hb1⟩
  by_cases h3 : sz < 0
  · clear h
    go_enter Try.func8, Try.ntmps8
    go_wp2_with (go_at_call 10; refine HA.out.mono ?_; rintro e w1 ⟨rfl, hb1⟩)
    go_ret
    exact ⟨rfl, hb1⟩
  have h4 : 2000 < sz := by omega
  clear h
  go_enter Try.func8, Try.ntmps8
  go_wp2_with (go_at_call 10; refine HA.out.mono ?_; rintro e w1 ⟨rfl, hb1⟩)
  go_ret
  exact ⟨rfl, hb1⟩
set_option maxHeartbeats 8000000 in
set_option maxRecDepth 100000 in
theorem room_in (nb sz : Nat) (w : World) (hnb : nb ≤ 100) (hsz : sz ≤ 2000) : Calls Try.prog 8 #[.int .i64 (nb : Int), .int .i64 (sz : Int)] w fun e w' => e = .returned (.bool true) ∧ Below w.heap.size w w' := by
  have HA := hid (anchor_any w)
  obtain ⟨ti, hi, hz0, hz1, hz2⟩ := info_parts infoB
  have hmk : ∀ u : World, (Instr.makeSlice 22 (.int .i64 (sz : Int)) (.int .i64 (sz : Int))).run Try.prog u = .ok (.slice (some ⟨u.heap.size, 0, none⟩) sz sz) (u.alloc (.cells (madeCells #[.int .u8 0] sz) 5)) := fun u => by
    have h := run_make (P := Try.prog) u 22 5 ti _ Try.underlying22 hi hz0 .i64 .i64 sz sz (by omega) (by omega) (by rw [hz2]; omega) (by omega)
    rw [hz1] at h
    simpa [Value.cells] using h
  have n1 : ¬ (nb : Int) < 0 := by omega
  have n2 : ¬ 100 < nb := by omega
  have n3 : ¬ (sz : Int) < 0 := by omega
  have n4 : ¬ 2000 < sz := by omega
  have n5 : ¬ (100 : Int) < (nb : Int) := by omega
  have n6 : ¬ (2000 : Int) < (sz : Int) := by omega
  have HNB := hid hnb
  have HSZ := hid hsz
  obtain ⟨q, hq⟩ : ∃ q, q = (sz + 15) / 16 := ⟨_, rfl⟩
  have hq1 : IntKind.i64.wrap ((sz : Int) + 15) = (sz : Int) + 15 := wrap_id (by omega) (by omega)
  have hq2 : ((sz : Int) + 15).tdiv 16 = (q : Int) := by
    rw [hq, show (sz : Int) + 15 = ((sz + 15 : Nat) : Int) by omega]
    exact Int.ofNat_tdiv (sz + 15) 16
  have hq3 : IntKind.i64.wrap (q : Int) = (q : Int) := wrap_id (by omega) (by omega)
  have HQ := hid hq
  clear hi hz0 hz1 hz2 hnb hsz hq
  go_enter Try.func8, Try.ntmps8
  go_upto_region 5 with (go_at_call 10; refine HA.out.mono ?_; rintro e w0 ⟨rfl, hb0⟩)
  have HB0 := hid hb0
  clear hb0 n1 n2 n3 n4 n5 n6
  have HN := hid (new_plain (w := w0) (a := none) (l := []) 16 nb (by omega) (by omega) (by have := HNB.out; omega) (by simp) (fun h => absurd rfl h) 0)
  go_upto_region 6 with (go_at_call 11; refine HN.out.mono ?_; rintro e w1 ⟨d, rfl, hd, hb1, hn1⟩)
  have HD := hid hd
  have HB1 := hid (HB0.out.trans (hb1.mono HB0.out.size))
  have HN1 := hid (fun k hk => Nat.le_trans HB0.out.size (hn1 k hk))
  have HS := hid (space_any nb w1 (by have := HNB.out; omega))
  clear hd hb1 hn1 HN
  go_upto_region 9 with (go_at_call 12; refine HS.out.mono ?_; rintro e w2 ⟨s, os, rfl, hsp, hps, hos, hb2⟩)
  have HD2 := hid (HD.out.below hb2)
  have HAP := hid (beside_new HD.out hps hos)
  have HC := hid (create_on HD2.out hsp HAP.out ⟨rfl, rfl⟩ rfl (Int.le_refl _) (by show (0 : Int) ≤ _; omega))
  have HB2 := hid (HB1.out.trans (hb2.mono HB1.out.size))
  have HSN := hid (show ∀ k, sS s os k → w.heap.size ≤ k from fun k hk => Nat.le_trans HB1.out.size (by
    rcases hk with e | e
    · rw [e]; exact hps
    · exact hos k e))
  clear hsp hps hos hb2
  go_upto_region 12 with (go_at_call 13; refine HC.out.mono ?_; rintro e w3 ⟨p, rfl, hw3, hp3, hb3⟩)
  have HB3 := hid (HB2.out.trans (hb3.mono HB2.out.size))
  have HW3 := hid hw3
  have HDN := hid (allNew_mk (os := os) (Nat.le_trans HB2.out.size hp3) HN1.out HSN.out)
  clear hw3 hp3 hb3 HC HS
  have hal := (Below.refl _ w3).alloc (Nat.le_refl _) (.cells (madeCells #[.int .u8 0] sz) 5)
  have X4 := heap_alloc_new w3 (.cells (madeCells #[.int .u8 0] sz) 5)
  have HW4 := hid (HW3.out.below hal)
  have HB4 := hid (HB3.out.trans (hal.mono HB3.out.size))
  have HY4 := hid (bytes_of X4 (cellsB_rep sz))
  have HNB4 : Hid (¬ allS p none none d s os w3.heap.size) := hid (fun hh => Nat.lt_irrefl _ (HW3.out.mem.lt _ hh))
  have HLN : Hid ((List.replicate sz (0 : Int)).length = sz) := hid (by simp)
  clear hal X4
  by_cases hroom : sz ≤ nb * 16
  · have hqn : ¬ (nb : Int) < (q : Int) := by have := HQ.out; omega
    have HWR := write_on HW4.out (List.replicate sz 0) (by rw [HLN.out]; show 0 + sz ≤ _; have := HSZ.out; omega) (by rw [HLN.out, cnt_all nb nb (Nat.le_refl _)]; show ((0 + sz : Nat) : Int) ≤ ((nb : Int) + 0) * 16; omega) (by rw [HLN.out]; show (0 : Int) + (sz : Nat) ≤ _; have := HSZ.out; omega) (some ⟨w3.heap.size, 0, none⟩) sz (src_of HY4.out (by rw [HLN.out]; exact Nat.le_refl _) (fun b' x e => by cases e; exact HNB4.out))
    rw [HLN.out] at HWR
    have HWR := hid HWR
    clear hroom
    go_upto_region 13 with (go_at_call 14; refine HWR.out.mono ?_; rintro e w6 ⟨rfl, o1, o1', os1, F1, W1, D1, f1, hw6, hst6, hs6, hc6, hn6⟩)
    have HW6 := hid hw6
    have ST6 := hid hst6
    have S6 := hid hs6
    have HB6 := hid (HDN.out.below HB4.out hst6)
    have HDN6 := hid (HDN.out.step hst6 HB4.out.size)
    have HN6 := hid hn6
    clear hw6 hst6 hs6 hc6 hn6 HWR hmk
    have HCL := hid (close_on HW6.out (by rw [List.length_append, HLN.out]; show 0 + sz ≤ _; have := HSZ.out; omega))
    have hsz0 : ((([] : List Int) ++ List.replicate sz 0).length : Int) = (sz : Int) := by rw [List.length_append, HLN.out]; show ((0 + sz : Nat) : Int) = _; omega
    go_upto_region 14 with (go_at_call 16; refine HCL.out.mono ?_; rintro e w7 ⟨v, o2, o2', os2, W2, D2, rfl, hv, hvn, hw7, hst7, hr7, hz7, hnf7, hml7, hs7, hfg7, hcw7⟩; rw [hsz0]; have HV := hid hv; have hbl : W1.blocks.length = q := (by rw [hfg7.ln, hs7.un, S6.out.un, List.length_append, HLN.out]; show needN (0 + sz) 16 = q; have := HQ.out; unfold needN; rw [Nat.zero_add]; split <;> omega); rw [hbl] at hv; obtain ⟨av, cv, rfl⟩ := own_slc hv)
    have HW7 := hid hw7
    have ST7 := hid hst7
    have HVN := hid hvn
    have HB7 := hid (HDN6.out.below HB6.out hst7)
    have HDN7 := hid (HDN6.out.step hst7 HB6.out.size)
    have HBL := hid hbl
    have HR7 := hid hr7
    obtain ⟨N6, e1, e2, e3⟩ := S6.out.nb
    have hN6 : W1.blocks = N6 := e1
    have HF1 : Hid (∀ x, F1 x = (allFree nb x && !(W1.blocks.any fun b => x == (b : Int)))) := hid (by rw [hN6]; exact e2)
    have HND : Hid (W1.blocks.Nodup ∧ ∀ b ∈ W1.blocks, b < nb ∧ F1 (b : Int) = false) := hid ⟨HW6.out.good.nd, HW6.out.good.bf⟩
    have hct : cntB F1 nb = (nb : Int) - (q : Int) := by
      have := HN6.out
      rw [hbl, cnt_all nb nb (Nat.le_refl _)] at this
      have h0 : ((([] : List Nat).length : Nat) : Int) = 0 := rfl
      simp only [List.length_nil] at this
      omega
    have HCT := hid hct
    clear hv hvn hw7 hst7 hr7 hz7 hnf7 hml7 hs7 hfg7 hcw7 HCL hbl hsz0 e1 e2 e3 hN6 hct
    have hal := (Below.refl _ w7).alloc (Nat.le_refl _) (.cells #[.slice av q cv, .int .i64 (sz : Int)] 39)
    have X8 := heap_alloc_new w7 (.cells #[.slice av q cv, .int .i64 (sz : Int)] 39)
    obtain ⟨w8, hw8⟩ : ∃ w8, w7.alloc (.cells #[.slice av q cv, .int .i64 (sz : Int)] 39) = w8 := ⟨_, rfl⟩
    obtain ⟨t11, ht11⟩ : ∃ t11, t11 = w7.heap.size := ⟨_, rfl⟩
    rw [hw8] at hal X8
    rw [← ht11] at X8
    rw [hw8, ← ht11]
    have HX8 := hid X8
    have HT11 := hid ht11
    have HW8 := hid (HW7.out.below hal)
    have HB8 := hid (HB7.out.trans (hal.mono HB7.out.size))
    have HV8 : Hid (w8.ownsRow 0 3 1 (.slice av q cv) W1.blocks.length (cellsN W1.blocks) ∧ ∀ k, (Value.slice av q cv).ownBlock = some k → k < w8.heap.size) := hid (by
      have z := HV.out
      have hlt : ∀ k, (Value.slice av q cv).ownBlock = some k → k < w7.heap.size := fun k hk => by
        rcases z.2 with ⟨hh, _⟩ | ⟨b, cap, cur, hh, _, hg, _⟩
        · rw [hh] at hk; cases hk
        · rw [hh] at hk
          cases hk
          exact blk_lt hg
      exact ⟨own_same z fun k hk => hal.block k (hlt k hk), fun k hk => Nat.lt_of_lt_of_le (hlt k hk) hal.size⟩)
    have HS78 := hid hal.size
    clear hal X8 hw8 ht11
    have HCS := hid (close_stopped HW8.out.wt (by rw [HR7.out]; decide))
    rw [HR7.out] at HCS
    go_upto_region 15 with (go_at_call 16; refine HCS.out.mono ?_; rintro e w9 ⟨rfl, hb9⟩)
    have hal := hb9.alloc hb9.size (.cells #[.slice none 0 0, .int .i64 0] 39)
    obtain ⟨w10, hw10⟩ : ∃ w10, w9.alloc (.cells #[.slice none 0 0, .int .i64 0] 39) = w10 := ⟨_, rfl⟩
    obtain ⟨t13, ht13⟩ : ∃ t13, t13 = w9.heap.size := ⟨_, rfl⟩
    rw [hw10] at hal
    rw [hw10, ← ht13]
    have HAL10 := hid hal
    have HW10 := hid (HW8.out.below hal)
    have HB10 := hid (HB8.out.trans (hal.mono HB8.out.size))
    clear hal hw10 ht13 hb9
    have HWS := hid (write_stopped HW10.out.wt (by rw [HR7.out]; decide) (.slice none 0 0))
    rw [HR7.out] at HWS
    have HLF := leftF_any HW10.out.sp
    rw [HCT.out] at HLF
    have HLF := hid HLF
    have hwn : IntKind.i64.wrap ((nb : Int) - (q : Int)) = (nb : Int) - (q : Int) := by have := HNB.out; exact wrap_id (by omega) (by omega)
    go_upto_region 20 with (first | (go_at_call 14; refine HWS.out.mono ?_; rintro e w11 ⟨rfl, h11⟩; rw [h11]; clear h11 w11) | (go_at_call 25; refine HLF.out.mono ?_; rintro e w12 ⟨rfl, hb12⟩))
    have HB812 := hid (HAL10.out.trans (hb12.mono HAL10.out.size))
    have HB12 := hid (HB10.out.trans (hb12.mono HB10.out.size))
    have HW12 := hid (HW10.out.below hb12)
    have HV12 : Hid (w12.ownsRow 0 3 1 (.slice av q cv) W1.blocks.length (cellsN W1.blocks)) := hid (own_same HV8.out.1 fun k hk => HB812.out.block k (HV8.out.2 k hk))
    have HX12 := hid ((HB812.out.block t11 (blk_lt HX8.out)).trans HX8.out)
    have c0 : w12.cell? ⟨t11, 0, none⟩ = some (.slice av q cv) := (blk_cell HX12.out 0).trans rfl
    have c1 : w12.cell? ⟨t11, 1, none⟩ = some (.int .i64 (sz : Int)) := (blk_cell HX12.out 1).trans rfl
    have HNS : Hid (∀ k, (Value.slice av q cv).ownBlock = some k → ¬ sS s os2 k) := hid (fun k hk hss => (HVN.out k hk).2 (.inr (.inr hss)))
    have HNT : Hid (¬ sS s os2 t11) := hid (fun hss => by
      have h1 := HW7.out.lt t11 (.inr (.inr hss))
      have h2 := HT11.out
      omega)
    have hde := drop_eq nb W1.blocks F1 HND.out.1 HND.out.2
    have hall : ∀ x, (dropAll nb F1 W1.blocks).2 x = allFree nb x := fun x => by
      rw [hde.2, HF1.out]
      cases hN : W1.blocks.any fun b => x == (b : Int) with
      | false => simp
      | true =>
        rw [List.any_eq_true] at hN
        obtain ⟨b, hb, hx⟩ := hN
        have hxb : x = (b : Int) := by simpa using hx
        have h1 := (HND.out.2 b hb).1
        unfold allFree
        rw [hxb, decide_eq_true (show (0 : Int) ≤ (b : Int) by omega), decide_eq_true (show (b : Int) < (nb : Int) by omega)]
        rfl
    have HLN5 := hid (show W1.blocks.length ≤ 1000000 by rw [HBL.out]; have := HQ.out; have := HSZ.out; omega)
    have HDR := hid ((drop_any HW12.out.sp HV12.out HNS.out HLN5.out (sz : Int)).mono (fun e w' h => show e = .returned (.int .i64 0) ∧ ∃ os', SpF w' s os' nb (allFree nb) ∧ (∀ k, os' = some k → os2 = some k ∨ w12.heap.size ≤ k) ∧ Upd (sS s os2) w12 w' by
      obtain ⟨h1, os', h2, h3, h4⟩ := h
      exact ⟨by rw [h1, hde.1], os', h2.ext hall, h3, h4⟩))
    clear hde hb12 HLF HWS HCS hall
    have VLT : Hid (∀ k, (Value.slice av q cv).ownBlock = some k → k < w12.heap.size) := hid fun k hk => Nat.lt_of_lt_of_le (HV8.out.2 k hk) HB812.out.size
    have HSNN := hid (show ∀ k, sS s os2 k → w.heap.size ≤ k from fun k hk => HDN7.out k (.inr (.inr hk)))
    by_cases hq0 : q = 0
    · subst hq0
      go_wp2_with (first | (go_at_call 26; refine HDR.out.mono ?_; rintro e w13 ⟨rfl, os3, h13, n13, u13⟩; have HL13 := leftF_any h13; rw [cnt_all nb nb (Nat.le_refl _)] at HL13; have HL13 := hid HL13; have U13 := hid u13; clear HDR h13 n13 u13) | (go_at_call 25; refine HL13.out.mono ?_; rintro e w14 ⟨rfl, hb14⟩))
      go_ret
      have h13 := HB12.out.trans (U13.out.below (B := w.heap.size) HB12.out.size HSNN.out)
      exact ⟨by simp, h13.trans (hb14.mono h13.size)⟩
    · have b1 : ((q : Int) == 0) = false := beq_eq_false_iff_ne.mpr (by omega)
      have hbne : W1.blocks ≠ [] := fun h => hq0 (by rw [← HBL.out, h]; rfl)
      have h44 := drop_free nb W1.blocks (allFree nb) (fun b hb => (HND.out.2 b hb).1) (fun b hb => by
        have h1 := (HND.out.2 b hb).1
        unfold allFree
        rw [decide_eq_true (show (0 : Int) ≤ (b : Int) by omega), decide_eq_true (show (b : Int) < (nb : Int) by omega)]
        rfl) hbne
      have H44 := hid h44
      have HQ0 := hid hq0
      clear h44 hbne hq0
      go_wp2_with (first | (go_at_call 26; refine HDR.out.mono ?_; rintro e w13 ⟨rfl, os3, h13, n13, u13⟩; have HL13 := leftF_any h13; rw [cnt_all nb nb (Nat.le_refl _)] at HL13; have HL13 := hid HL13; have U13 := hid u13; have H13 := hid h13; have N13 := hid n13; clear HDR h13 n13 u13) | (go_at_call 25; refine HL13.out.mono ?_; rintro e w14 ⟨rfl, hb14⟩; have x14 := (hb14.block t11 (Nat.lt_of_lt_of_le (blk_lt HX12.out) U13.out.size)).trans ((U13.out.block t11 (blk_lt HX12.out) HNT.out).trans HX12.out); have c0 : w14.cell? ⟨t11, 0, none⟩ = some (.slice av q cv) := (blk_cell x14 0).trans rfl; have c1 : w14.cell? ⟨t11, 1, none⟩ = some (.int .i64 (sz : Int)) := (blk_cell x14 1).trans rfl; have HB14 := hid hb14; clear x14 hb14 HL13) | (go_at_call 26; refine (drop_any (H13.out.below HB14.out) (own_same HV12.out fun k hk => (HB14.out.block k (Nat.lt_of_lt_of_le (VLT.out k hk) U13.out.size)).trans (U13.out.block k (VLT.out k hk) (HNS.out k hk))) (fun k hk hss => hss.elim (fun e => HNS.out k hk (.inl e)) fun e => (N13.out k e).elim (fun e => HNS.out k hk (.inr e)) fun e => absurd (VLT.out k hk) (Nat.not_lt.2 e)) HLN5.out (sz : Int)).mono ?_; rintro e w15 ⟨rfl, os4, h15, n15, u15⟩; rw [H44.out]; have U15 := hid u15; clear h15 n15 u15))
      go_ret
      have h13 := HB12.out.trans (U13.out.below (B := w.heap.size) HB12.out.size HSNN.out)
      have h14 := h13.trans (HB14.out.mono h13.size)
      refine ⟨by simp, h14.trans (U15.out.below (B := w.heap.size) h14.size fun k hk => ?_)⟩
      rcases hk with e | e
      · exact HSNN.out k (.inl e)
      · rcases N13.out k e with e | e
        · exact HSNN.out k (.inr e)
        · have := HB12.out.size
          omega
  · have hqn : (nb : Int) < (q : Int) := by have := HQ.out; omega
    have HWR := write_no HW4.out (List.replicate sz 0) (by rw [HLN.out]; show 0 + sz ≤ _; have := HSZ.out; omega) (by rw [HLN.out, cnt_all nb nb (Nat.le_refl _)]; show ((nb : Int) + 0) * 16 < ((0 + sz : Nat) : Int); omega) (some ⟨w3.heap.size, 0, none⟩) sz (src_of HY4.out (by rw [HLN.out]; exact Nat.le_refl _) (fun b' x e => by cases e; exact HNB4.out))
    rw [HLN.out] at HWR
    have HWR := hid HWR
    clear hroom
    go_upto_region 13 with (go_at_call 14; refine HWR.out.mono ?_; rintro e w6 ⟨rfl, o1, o1', os1, F1, W1, D1, hw6, hr6, hz6, hst6, hf6⟩)
    have HW6 := hid hw6
    have HR6 := hid hr6
    have HZ6 := hid hz6
    have HB6 := hid (HDN.out.below HB4.out hst6)
    have hcf : cntB F1 nb = (nb : Int) := by
      rw [← cnt_all nb nb (Nat.le_refl _)]
      refine cntB_congr nb fun x _ _ => ?_
      rw [hf6]
      simp
    have HCF := hid hcf
    clear hw6 hr6 hz6 hst6 hf6 HWR hmk hcf
    have HCL := hid (close_stopped HW6.out.wt (by rw [HR6.out]; decide))
    rw [HR6.out] at HCL
    go_upto_region 14 with (go_at_call 16; refine HCL.out.mono ?_; rintro e w7 ⟨rfl, hb7⟩)
    have hal := hb7.alloc hb7.size (.cells #[.slice none 0 0, .int .i64 0] 39)
    obtain ⟨w8, hw8⟩ : ∃ w8, w7.alloc (.cells #[.slice none 0 0, .int .i64 0] 39) = w8 := ⟨_, rfl⟩
    rw [hw8] at hal
    rw [hw8]
    have HW8 := hid (HW6.out.below hal)
    have HB8 := hid (HB6.out.trans (hal.mono HB6.out.size))
    clear hal hw8 hb7 HCL
    have HCS := hid (close_stopped HW8.out.wt (by rw [HR6.out]; decide))
    rw [HR6.out] at HCS
    go_upto_region 15 with (go_at_call 16; refine HCS.out.mono ?_; rintro e w9 ⟨rfl, hb9⟩)
    have hal := hb9.alloc hb9.size (.cells #[.slice none 0 0, .int .i64 0] 39)
    obtain ⟨w10, hw10⟩ : ∃ w10, w9.alloc (.cells #[.slice none 0 0, .int .i64 0] 39) = w10 := ⟨_, rfl⟩
    rw [hw10] at hal
    rw [hw10]
    have HW10 := hid (HW8.out.below hal)
    have HB10 := hid (HB8.out.trans (hal.mono HB8.out.size))
    clear hal hw10 hb9 HCS
    have HLF := leftF_any HW10.out.sp
    rw [HCF.out] at HLF
    have HLF := hid HLF
    go_wp2_with (first | (go_at_call 14; refine HWS.out.mono ?_; rintro e w11 ⟨rfl, h11⟩; rw [h11]; clear h11 w11) | (go_at_call 24; refine HZS.out.mono ?_; rintro e w11 ⟨rfl, h11⟩; rw [h11]; clear h11 w11) | (go_at_call 25; refine HLF.out.mono ?_; rintro e w12 ⟨rfl, hb12⟩; have HB12 := hid hb12; have HW12 := hid (HW10.out.below hb12); have hzs := size_any HW12.out.wt; rw [HZ6.out] at hzs; have HZS := hid hzs; have hws := write_stopped HW12.out.wt (by rw [HR6.out]; decide) (.slice none 0 0); rw [HR6.out] at hws; have HWS := hid hws; clear hb12 hzs hws))
    go_ret
    exact ⟨by simp, HB10.out.trans (HB12.out.mono HB10.out.size)⟩
theorem room_walk (a b : Int) (w : World) : Calls Try.prog 8 #[.int .i64 a, .int .i64 b] w fun e w' => e = .returned (.bool true) ∧ Below w.heap.size w w' := by
  by_cases h : a < 0 ∨ 100 < a ∨ b < 0 ∨ 2000 < b
  · exact room_out a b w h
  · obtain ⟨n, rfl⟩ := Int.eq_ofNat_of_zero_le (show 0 ≤ a by omega)
    obtain ⟨m, rfl⟩ := Int.eq_ofNat_of_zero_le (show 0 ≤ b by omega)
    exact room_in n m w (by omega) (by omega)
end Go.Proofs.Ytkhejipcclpknaa
