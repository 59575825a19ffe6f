/- The walk of ViolSorts. No statement is proved here. -/
import Derived.Test.YtgimpkbknaopcaaStG
import Derived.Test.YtgimpkbknaopcaaVZ
import Derived.Test.YtgimpkbknaopcaaVBL
import Derived.Test.YtgimpkbknaopcaaTlE
import Derived.Deep.RegionHeld3
import Derived.Deep.MidRow
import Derived.Deep.CutRange
set_option linter.unusedVariables false
set_option linter.unusedSimpArgs false
namespace Go.Proofs.Ytgimpkbknaopcaa
open Go.RowKit Go.Shelf Go.Lib
open Go.Sort hiding Below

theorem sortV_len (l : List V) : (sortV l).length = l.length := by
  have h1 := sort_map _ (ptsOf 0 l) (Nat.le_refl _)
  rw [ptsOf_map] at h1
  rw [h1, List.length_map, (sort_perm _ (ptsOf 0 l) (Nat.le_refl _)).length_eq, ptsOf_length]
theorem ltV_asymm {u v : V} (h : ltV u v) : ¬ ltV v u := by unfold ltV at *; omega
theorem cmpI_vals (a b : Int) : cmpI a b = -1 ∨ cmpI a b = 0 ∨ cmpI a b = 1 := by unfold cmpI; split <;> (try split) <;> simp
theorem cmpV_vals (u v : V) : cmpV u v = -1 ∨ cmpV u v = 0 ∨ cmpV u v = 1 := by
  unfold cmpV orI
  split
  · split
    · split
      · exact cmpI_vals _ _
      · exact cmpI_vals _ _
    · exact cmpI_vals _ _
  · exact cmpI_vals _ _
theorem cmpV_lt {u v : V} (h : ltV u v) : cmpV u v = -1 := by
  have h1 := cmpV_neg.2 h
  rcases cmpV_vals u v with e | e | e <;> omega
theorem cmpV_gt {u v : V} (h : ltV v u) : cmpV u v = 1 := by
  have h1 := cmpV_pos.2 h
  rcases cmpV_vals u v with e | e | e <;> omega
theorem cmpV_eq {u v : V} (h : ¬ ltV u v) (k : ¬ ltV v u) : cmpV u v = 0 := by
  rcases cmpV_vals u v with e | e | e
  · exact absurd (cmpV_neg.1 (by omega)) h
  · exact e
  · exact absurd (cmpV_pos.1 (by omega)) k
theorem tally_range {W : World} {b : Nat} {l : List V} (h : W.heap[b]? = some (.cells (cellsT l) 46 (0, 0))) : W.rangeAt b 0 [.int .i64 (tl l 0), .int .i64 (tl l 1), .int .i64 (tl l 2), .int .i64 (tl l 3), .int .i64 (tl l 4), .int .i64 (tl l 5), .int .i64 (tl l 6), .int .i64 (tl l 7), .int .i64 (tl l 8), .int .i64 (tl l 9), .int .i64 (tl l 10)] := fun j v hj => by
  rw [Nat.zero_add, blk_cell h]
  rw [← hj]
  unfold cellsT
  simp
theorem cmpV_both (u v : V) : (if decide (ltV v u) = true then (1 : Int) else if decide (ltV u v) = true then -1 else 0) = cmpV u v ∧ cmpV v u = -cmpV u v ∧ IntKind.i64.wrap (-cmpV u v) = -cmpV u v := by
  refine ⟨?_, ?_, ?_⟩
  · by_cases h2 : ltV v u
    · rw [if_pos (decide_eq_true h2), cmpV_gt h2]
    · rw [if_neg (by simpa using h2)]
      by_cases h1 : ltV u v
      · rw [if_pos (decide_eq_true h1), cmpV_lt h1]
      · rw [if_neg (by simpa using h1), cmpV_eq h1 h2]
  · by_cases h2 : ltV v u
    · rw [cmpV_gt h2, cmpV_lt h2]
    · by_cases h1 : ltV u v
      · rw [cmpV_lt h1, cmpV_gt h1]
        rfl
      · rw [cmpV_eq h1 h2, cmpV_eq h2 h1]
        rfl
  · rcases cmpV_vals u v with e | e | e <;> rw [e] <;> rw [IntKind.wrap_i64] <;> omega
set_option maxHeartbeats 16000000 in
set_option maxRecDepth 1000000 in
theorem sorts_walk (a : Option Addr) (cap : Nat) (l : List V) (w : World) (hin : VIn w a l) (hcap : l.length ≤ cap) (hml : l.length ≤ 1172812402960) (hnil : a = none → l = []) :
    Calls Try.prog 8 #[.slice a l.length cap] w fun e w' => e = .returned (.bool true) ∧ Below w.heap.size w w' := by
  have HA := hid (anchor_any w)
  obtain ⟨n, hn⟩ : ∃ n, n = l.length := ⟨_, rfl⟩
  have HN := hid hn
  have HIN := hid hin
  have HCP := hid hcap
  have HNIL := hid hnil
  have HML := hid hml
  have HC0 : Hid (∀ W : World, Calls Try.prog 17 #[(⟨8, 3, 0, 0, 0, .empty, false, .empty, false, .empty, 0, 0⟩ : V).agg, (⟨7, 3, 9, 0, 0, .empty, false, .empty, false, .empty, 0, 0⟩ : V).agg] W fun e w' => e = .returned (.int .i64 1) ∧ Laid W w') := hid fun W => compare_any _ _ W
  rw [← hn]
  clear hn hin hcap hml hnil
  go_enter Try.func8, Try.ntmps8
  go_upto_region 3 with (first | (go_at_call 9; refine HA.out.mono ?_; rintro e w1 ⟨rfl, hb1⟩) | (go_at_call 17; refine (HC0.out _).mono ?_; rintro e w2 ⟨rfl, hl2⟩; have HB2 := hid (hb1.trans (hl2.below.mono hb1.size)); clear hb1 hl2))
  obtain ⟨g, c, w3, hrun, hown, hgs, hbel⟩ := copy_viols (HIN.out.below HB2.out) cap HML.out HNIL.out
  rw [← HN.out] at hrun
  have HB3 := hid (HB2.out.trans (hbel.mono HB2.out.size))
  obtain ⟨a2, c2, e2, hv2⟩ := own_vin hown
  obtain ⟨rfl, rfl⟩ : a2 = some ⟨g, 0, none⟩ ∧ c2 = c := by cases e2; exact ⟨rfl, rfl⟩
  have HV2 := hid hv2
  have hso := vsort_any (some ⟨g, 0, none⟩) c2 l w3 hv2 HML.out (fun h => by cases h)
  rw [← HN.out] at hso
  have HSO := hid hso
  have HSL : Hid ((sortV l).length = n) := hid (by rw [sortV_len, HN.out])
  clear hown hgs hbel hv2 e2 hso HA HC0
  go_upto_region 6 with (first | (at_builtin; refine wpList_append_run _ rfl (.tmp 17) (.tmp 18) 28 28 rfl _ _ rfl rfl hrun ?_) | (go_at_call 19; refine HSO.out.mono ?_; rintro e w4 ⟨v1, rfl, ho1, hv1, hb4⟩; have HB4 := hid (HB3.out.trans (hb4.mono HB3.out.size)); obtain ⟨a1, c1, hv, hi1⟩ := own_vin ho1; rw [HSL.out] at hv; subst hv; have HI1 := hid hi1; have hrs := sort_ref _ l a cap w4 (Nat.le_refl _) HCP.out HML.out (HIN.out.below HB4.out) HNIL.out; rw [← HN.out] at hrs; have HRS := hid hrs; have HV4 := hid (HV2.out.below hb4); clear ho1 hv1 hb4 hi1 hrs HSO) | (go_at_call 20; refine HRS.out.mono ?_; rintro e w5 ⟨v2, rfl, ho2, hv2, hb5⟩; have HB5 := hid (HB4.out.trans (hb5.mono HB4.out.size)); obtain ⟨a3, c3, hv, hi2⟩ := own_vin ho2; rw [HSL.out] at hv; subst hv; have hs1 := same_eq a1 a3 c1 c3 (sortV l) w5 (HI1.out.below hb5) hi2 (by rw [sortV_len]; have := HML.out; omega); rw [HSL.out] at hs1; have HS1 := hid hs1; have HV5 := hid (HV4.out.below hb5); clear ho2 hv2 hb5 hi2 hs1 HRS) | (go_at_call 13; refine HS1.out.mono ?_; rintro e w6 ⟨rfl, hb6⟩; have HB6 := hid (HB5.out.trans (hb6.mono HB5.out.size)); have HV6 := hid (HV5.out.below hb6); have hs2 := same_eq (some ⟨g, 0, none⟩) a c2 cap l w6 HV6.out (HIN.out.below HB6.out) (by have := HML.out; omega); rw [← HN.out] at hs2; have HS2 := hid hs2; clear hb6 hs2 HS1) | (go_at_call 13; refine HS2.out.mono ?_; rintro e w7 ⟨rfl, hb7⟩; have HB7 := hid (HB6.out.trans (hb7.mono HB6.out.size)); have HV7 := hid (HV6.out.below hb7); clear hb7 HS2))
  clear hrun
  go_upto_region 7 with fail
  have hal := (Below.refl _ w7).alloc (Nat.le_refl _) (.cells #[.int .i64 0, .int .i64 0, .int .i64 0, .int .i64 0, .int .i64 0, .int .i64 0, .int .i64 0, .int .i64 0, .int .i64 0, .int .i64 0, .int .i64 0] 46)
  have X4 := heap_alloc_new w7 (.cells #[.int .i64 0, .int .i64 0, .int .i64 0, .int .i64 0, .int .i64 0, .int .i64 0, .int .i64 0, .int .i64 0, .int .i64 0, .int .i64 0, .int .i64 0] 46)
  obtain ⟨w8, hw8⟩ : ∃ w8, w7.alloc (.cells #[.int .i64 0, .int .i64 0, .int .i64 0, .int .i64 0, .int .i64 0, .int .i64 0, .int .i64 0, .int .i64 0, .int .i64 0, .int .i64 0, .int .i64 0] 46) = w8 := ⟨_, rfl⟩
  obtain ⟨t4, ht4⟩ : ∃ t4, t4 = w7.heap.size := ⟨_, rfl⟩
  rw [hw8] at hal X4
  rw [← ht4] at X4
  rw [hw8, ← ht4]
  have HT4 : Hid (w7.heap.size ≤ t4) := hid (by omega)
  have HW8 : Hid (Below w7.heap.size w7 w8 ∧ w8.heap[t4]? = some (.cells (cellsT (l.take 0)) 46 (0, 0))) := hid ⟨hal, X4⟩
  clear hal X4 hw8 ht4
  go_wp2_with fail
  go_loopg [34] n (fun gh s34 wr => ∃ i : Nat, i ≤ n ∧ n - i = gh ∧ s34 = .int .i64 (i : Int) ∧ Hid (Below w7.heap.size w7 wr ∧ wr.heap[t4]? = some (.cells (cellsT (l.take i)) 46 (0, 0))))
  case atStart => exact ⟨0, Nat.zero_le _, rfl, rfl, HW8⟩
  case round =>
    clear HW8
    obtain ⟨i, hi, rfl, rfl, HR⟩ := hrel
    by_cases hlt : i < n
    · have hiI : (i : Int) < (n : Int) := by omega
      have hi0I : (0 : Int) ≤ (i : Int) := by omega
      have hil : i < l.length := by rw [← HN.out]; exact hlt
      obtain ⟨x, ox, hax, hxl, hxc⟩ := (HIN.out.below HB7.out) (by intro h; rw [h] at hil; simp at hil)
      subst hax
      have HXC := hid hxc
      have HXL7 := hid hxl
      have hx : ∀ j, j < 12 → wr.cell? ⟨x, ox + i * 12 + j, none⟩ = (l[i]).cs[j]? := fun j hj => (HR.out.1.cell (p := ⟨x, ox + i * 12 + j, none⟩) hxl).trans (hxc i hil j hj)
      obtain ⟨v, hv⟩ : ∃ v, v = l[i] := ⟨_, rfl⟩
      rw [← hv] at hx
      have x0 : wr.cell? ⟨x, ox + i * 12, none⟩ = some (.int .i64 v.kind) := hx 0 (by omega)
      have x1 : wr.cell? ⟨x, ox + i * 12 + 1, none⟩ = some (.int .i64 v.time) := hx 1 (by omega)
      have x2 : wr.cell? ⟨x, ox + i * 12 + 2, none⟩ = some (.int .i64 v.txn) := hx 2 (by omega)
      have x3 : wr.cell? ⟨x, ox + i * 12 + 3, none⟩ = some (.int .i64 v.op) := hx 3 (by omega)
      have x4 : wr.cell? ⟨x, ox + i * 12 + 4, none⟩ = some (.int .i64 v.wit) := hx 4 (by omega)
      have x5 : wr.cell? ⟨x, ox + i * 12 + 5, none⟩ = some (.string v.key) := hx 5 (by omega)
      have x6 : wr.cell? ⟨x, ox + i * 12 + 6, none⟩ = some (.bool v.want) := hx 6 (by omega)
      have x7 : wr.cell? ⟨x, ox + i * 12 + 7, none⟩ = some (.string v.exp) := hx 7 (by omega)
      have x8 : wr.cell? ⟨x, ox + i * 12 + 8, none⟩ = some (.bool v.got) := hx 8 (by omega)
      have x9 : wr.cell? ⟨x, ox + i * 12 + 9, none⟩ = some (.string v.obs) := hx 9 (by omega)
      have x10 : wr.cell? ⟨x, ox + i * 12 + 10, none⟩ = some (.int .i64 v.frm) := hx 10 (by omega)
      have x11 : wr.cell? ⟨x, ox + i * 12 + 11, none⟩ = some (.int .i64 v.to) := hx 11 (by omega)
      have HV := hid hv
      have HLT := hid hlt
      have wi : IntKind.i64.wrap ((i : Int) + 1) = (i : Int) + 1 := by rw [IntKind.wrap_i64]; have := HML.out; have := HN.out; omega
      clear hx hxc hxl hv hi hlt
      go_upto_region 10 with fail
      clear x0 x1 x2 x3 x4 x5 x6 x7 x8 x9 x10 x11
      have hal := (Below.refl _ wr).alloc (Nat.le_refl _) (.cells #[.int .i64 v.kind, .int .i64 v.time, .int .i64 v.txn, .int .i64 v.op, .int .i64 v.wit, .string v.key, .bool v.want, .string v.exp, .bool v.got, .string v.obs, .int .i64 v.frm, .int .i64 v.to] 30)
      have X6 := heap_alloc_new wr (.cells #[.int .i64 v.kind, .int .i64 v.time, .int .i64 v.txn, .int .i64 v.op, .int .i64 v.wit, .string v.key, .bool v.want, .string v.exp, .bool v.got, .string v.obs, .int .i64 v.frm, .int .i64 v.to] 30)
      obtain ⟨w10, hw10⟩ : ∃ w10, wr.alloc (.cells #[.int .i64 v.kind, .int .i64 v.time, .int .i64 v.txn, .int .i64 v.op, .int .i64 v.wit, .string v.key, .bool v.want, .string v.exp, .bool v.got, .string v.obs, .int .i64 v.frm, .int .i64 v.to] 30) = w10 := ⟨_, rfl⟩
      obtain ⟨t6, ht6⟩ : ∃ t6, t6 = wr.heap.size := ⟨_, rfl⟩
      rw [hw10] at hal X6
      rw [← ht6] at X6
      rw [hw10, ← ht6]
      have HN46 : Hid (¬ t6 = t4) := hid (by have := blk_lt HR.out.2; omega)
      have H10 := hid (And.intro (HR.out.1.trans (hal.mono HR.out.1.size)) ((hal.block t4 (blk_lt HR.out.2)).trans HR.out.2))
      have mixed := mixedT
      have z0 := fun n os => cell_grown (a := ⟨t6, 0, none⟩) (blk_lt X6) (((blk_cell X6 0).trans rfl) : w10.cell? _ = some (.int .i64 v.kind)) n os
      have z1 := fun n os => cell_grown (a := ⟨t6, 1, none⟩) (blk_lt X6) (((blk_cell X6 1).trans rfl) : w10.cell? _ = some (.int .i64 v.time)) n os
      have z2 := fun n os => cell_grown (a := ⟨t6, 2, none⟩) (blk_lt X6) (((blk_cell X6 2).trans rfl) : w10.cell? _ = some (.int .i64 v.txn)) n os
      have z3 := fun n os => cell_grown (a := ⟨t6, 3, none⟩) (blk_lt X6) (((blk_cell X6 3).trans rfl) : w10.cell? _ = some (.int .i64 v.op)) n os
      have z4 := fun n os => cell_grown (a := ⟨t6, 4, none⟩) (blk_lt X6) (((blk_cell X6 4).trans rfl) : w10.cell? _ = some (.int .i64 v.wit)) n os
      have z5 := fun n os => cell_grown (a := ⟨t6, 5, none⟩) (blk_lt X6) (((blk_cell X6 5).trans rfl) : w10.cell? _ = some (.string v.key)) n os
      have z6 := fun n os => cell_grown (a := ⟨t6, 6, none⟩) (blk_lt X6) (((blk_cell X6 6).trans rfl) : w10.cell? _ = some (.bool v.want)) n os
      have z7 := fun n os => cell_grown (a := ⟨t6, 7, none⟩) (blk_lt X6) (((blk_cell X6 7).trans rfl) : w10.cell? _ = some (.string v.exp)) n os
      have z8 := fun n os => cell_grown (a := ⟨t6, 8, none⟩) (blk_lt X6) (((blk_cell X6 8).trans rfl) : w10.cell? _ = some (.bool v.got)) n os
      have z9 := fun n os => cell_grown (a := ⟨t6, 9, none⟩) (blk_lt X6) (((blk_cell X6 9).trans rfl) : w10.cell? _ = some (.string v.obs)) n os
      have z10 := fun n os => cell_grown (a := ⟨t6, 10, none⟩) (blk_lt X6) (((blk_cell X6 10).trans rfl) : w10.cell? _ = some (.int .i64 v.frm)) n os
      have z11 := fun n os => cell_grown (a := ⟨t6, 11, none⟩) (blk_lt X6) (((blk_cell X6 11).trans rfl) : w10.cell? _ = some (.int .i64 v.to)) n os
      have HX10 := hid X6
      have HCV : Hid (∀ W : World, Calls Try.prog 18 #[v.agg] W fun e w' => e = .returned (.bool (validB v)) ∧ Laid W w') := hid fun W => valid_laid v W
      have HCR : Hid (∀ W : World, Calls Try.prog 12 #[v.agg] W fun e w' => e = .returned (.bool (validB v)) ∧ Laid W w') := hid fun W => rvalid_laid v W
      generalize validB v = bv at HCV HCR
      clear hal X6 hw10 ht6
      go_upto_region 10 with fail
      go_quiet_grown (first | (go_at_call 18; refine Calls.grown_of (HCV.out _)) | (go_at_call 12; refine Calls.grown_of (HCR.out _)))
      have HL : Hid (Below w10.heap.size w10 (Go.Sort.grow (w10.drewN nq) osq)) := hid (Laid.below ⟨nq, osq, rfl⟩)
      clear HCV HCR z0 z1 z2 z3 z4 z5 z6 z7 z8 z9 z10 z11 mixed
      generalize Go.Sort.grow (w10.drewN nq) osq = w11 at HL ⊢
      have HX6 := hid ((HL.out.block t6 (blk_lt HX10.out)).trans HX10.out)
      have H11 := hid (And.intro (H10.out.1.trans (HL.out.mono H10.out.1.size)) ((HL.out.block t4 (blk_lt H10.out.2)).trans H10.out.2))
      have k0 : w11.cell? ⟨t6, 0, none⟩ = some (.int .i64 v.kind) := (blk_cell HX6.out 0).trans rfl
      clear HX10 H10 HL
      have hcl := inB_cls v
      by_cases hk1 : v.kind < 1
      · have hk11 : (0 : Nat) < 11 := by omega
        have HCL : Hid (clsV l[i] = 0) := hid (by rw [← HV.out]; exact hcl.2 (by unfold inB; rw [decide_eq_false (by omega)]; rfl))
        clear hcl
        obtain ⟨cc, hcc⟩ : ∃ cc, cc = tl (l.take i) 0 := ⟨_, rfl⟩
        have ct : w11.cell? ⟨t4, 0, none⟩ = some (.int .i64 cc) := by rw [blk_cell H11.out.2, hcc]; exact cellsT_get _ hk11
        have cf := blk_free H11.out.2 0
        have wc : IntKind.i64.wrap (cc + 1) = cc + 1 := by
          have := tl_le l i 0
          have := HML.out
          have := HN.out
          have := HLT.out
          rw [IntKind.wrap_i64]
          omega
        have HCC := hid hcc
        clear hcc hk11
        go_upto_region 16 with fail
        have WT : (w11.setCell ⟨t4, 0, none⟩ (.int .i64 (cc + 1))).heap[t4]? = some (.cells (cellsT (l.take (i + 1))) 46 (0, 0)) := by
          have h := heap_setCell_same w11 t4 0 _ _ (.int .i64 (cc + 1)) H11.out.2
          rw [h, HCC.out, cellsT_step l hil HCL.out]
        have WB : Below w7.heap.size w7 (w11.setCell ⟨t4, 0, none⟩ (.int .i64 (cc + 1))) := H11.out.1.setCell (p := ⟨t4, 0, none⟩) HT4.out _
        have HB6 : Hid ((w11.setCell ⟨t4, 0, none⟩ (.int .i64 (cc + 1))).heap[t6]? = some (.cells #[.int .i64 v.kind, .int .i64 v.time, .int .i64 v.txn, .int .i64 v.op, .int .i64 v.wit, .string v.key, .bool v.want, .string v.exp, .bool v.got, .string v.obs, .int .i64 v.frm, .int .i64 v.to] 30 (0, 0))) := hid (((Upd.refl (fun k => k = t4) w11).setCell (p := ⟨t4, 0, none⟩) (fun _ => rfl) _).block t6 (blk_lt HX6.out) HN46.out |>.trans HX6.out)
        generalize w11.setCell ⟨t4, 0, none⟩ (.int .i64 (cc + 1)) = w12 at WT WB HB6 ⊢
        clear ct cf wc
        by_cases hi0 : i = 0
        · subst hi0
          have WT := hid WT
          have WB := hid WB
          clear hi0I
          go_wp2_with fail
          go_roundg (n - (0 + 1))
          case measure => have := HLT.out; omega
          case rel => exact ⟨0 + 1, HLT.out, rfl, by go_num, hid ⟨WB.out, WT.out⟩⟩
        · have hi0P : (0 : Int) < (i : Int) := by omega
          have hi0N : 0 < i := by omega
          obtain ⟨i1, hi1⟩ : ∃ i1, i1 = i - 1 := ⟨_, rfl⟩
          have wi1 : IntKind.i64.wrap ((i : Int) - 1) = (i1 : Int) := by rw [IntKind.wrap_i64]; have := HML.out; have := HN.out; have := HLT.out; omega
          have hi1n : i1 < n := by have := HLT.out; omega
          have hi1I : (i1 : Int) < (n : Int) := by omega
          have hi1l : i1 < l.length := by rw [← HN.out]; exact hi1n
          obtain ⟨u, hu⟩ : ∃ u, u = l[i1] := ⟨_, rfl⟩
          have HU : Hid (∀ W : World, Below w12.heap.size w12 W → ∀ j, j < 12 → W.cell? ⟨x, ox + i1 * 12 + j, none⟩ = u.cs[j]?) := hid fun W hb j hj => by
            rw [hu]
            exact ((WB.trans (hb.mono WB.size)).cell (p := ⟨x, ox + i1 * 12 + j, none⟩) HXL7.out).trans (HXC.out i1 hi1l j hj)
          have HXL : Hid (x < w12.heap.size) := hid (Nat.lt_of_lt_of_le HXL7.out WB.size)
          have hu12 : ∀ j, j < 12 → w12.cell? ⟨x, ox + i1 * 12 + j, none⟩ = u.cs[j]? := HU.out w12 (Below.refl _ _)
          have hxl : x < w12.heap.size := HXL.out
          have hb6 := HB6.out
          have HWw12 : Hid (Below w12.heap.size w12 w12) := hid (Below.refl _ _)
          have mixed := mixedT
          clear hu hi1 hi1n hi1l hi0
          obtain ⟨cv, hcv⟩ : ∃ cv, cv = cmpV u v := ⟨_, rfl⟩
          obtain ⟨b1, hb1⟩ : ∃ b1, b1 = decide (ltV u v) := ⟨_, rfl⟩
          obtain ⟨b2, hb2⟩ : ∃ b2, b2 = decide (ltV v u) := ⟨_, rfl⟩
          have HCV2 := hid hcv
          have HD1 := hid hb1
          have HD2 := hid hb2
          have HCM : Hid ((if b2 = true then (1 : Int) else if b1 = true then -1 else 0) = cv ∧ cmpV v u = -cv ∧ IntKind.i64.wrap (-cv) = -cv) := hid (by rw [hb1, hb2, hcv]; exact cmpV_both u v)
          clear hcv hb1 hb2
          have y0 := fun n os => cell_grown (a := ⟨x, ox + i1 * 12, none⟩) hxl (hu12 0 (by omega) : w12.cell? _ = some (.int .i64 u.kind)) n os
          have y1 := fun n os => cell_grown (a := ⟨x, ox + i1 * 12 + 1, none⟩) hxl (hu12 1 (by omega) : w12.cell? _ = some (.int .i64 u.time)) n os
          have y2 := fun n os => cell_grown (a := ⟨x, ox + i1 * 12 + 2, none⟩) hxl (hu12 2 (by omega) : w12.cell? _ = some (.int .i64 u.txn)) n os
          have y3 := fun n os => cell_grown (a := ⟨x, ox + i1 * 12 + 3, none⟩) hxl (hu12 3 (by omega) : w12.cell? _ = some (.int .i64 u.op)) n os
          have y4 := fun n os => cell_grown (a := ⟨x, ox + i1 * 12 + 4, none⟩) hxl (hu12 4 (by omega) : w12.cell? _ = some (.int .i64 u.wit)) n os
          have y5 := fun n os => cell_grown (a := ⟨x, ox + i1 * 12 + 5, none⟩) hxl (hu12 5 (by omega) : w12.cell? _ = some (.string u.key)) n os
          have y6 := fun n os => cell_grown (a := ⟨x, ox + i1 * 12 + 6, none⟩) hxl (hu12 6 (by omega) : w12.cell? _ = some (.bool u.want)) n os
          have y7 := fun n os => cell_grown (a := ⟨x, ox + i1 * 12 + 7, none⟩) hxl (hu12 7 (by omega) : w12.cell? _ = some (.string u.exp)) n os
          have y8 := fun n os => cell_grown (a := ⟨x, ox + i1 * 12 + 8, none⟩) hxl (hu12 8 (by omega) : w12.cell? _ = some (.bool u.got)) n os
          have y9 := fun n os => cell_grown (a := ⟨x, ox + i1 * 12 + 9, none⟩) hxl (hu12 9 (by omega) : w12.cell? _ = some (.string u.obs)) n os
          have y10 := fun n os => cell_grown (a := ⟨x, ox + i1 * 12 + 10, none⟩) hxl (hu12 10 (by omega) : w12.cell? _ = some (.int .i64 u.frm)) n os
          have y11 := fun n os => cell_grown (a := ⟨x, ox + i1 * 12 + 11, none⟩) hxl (hu12 11 (by omega) : w12.cell? _ = some (.int .i64 u.to)) n os
          have z0 := fun n os => cell_grown (a := ⟨t6, 0, none⟩) (blk_lt hb6) (((blk_cell hb6 0).trans rfl) : w12.cell? _ = some (.int .i64 v.kind)) n os
          have z1 := fun n os => cell_grown (a := ⟨t6, 1, none⟩) (blk_lt hb6) (((blk_cell hb6 1).trans rfl) : w12.cell? _ = some (.int .i64 v.time)) n os
          have z2 := fun n os => cell_grown (a := ⟨t6, 2, none⟩) (blk_lt hb6) (((blk_cell hb6 2).trans rfl) : w12.cell? _ = some (.int .i64 v.txn)) n os
          have z3 := fun n os => cell_grown (a := ⟨t6, 3, none⟩) (blk_lt hb6) (((blk_cell hb6 3).trans rfl) : w12.cell? _ = some (.int .i64 v.op)) n os
          have z4 := fun n os => cell_grown (a := ⟨t6, 4, none⟩) (blk_lt hb6) (((blk_cell hb6 4).trans rfl) : w12.cell? _ = some (.int .i64 v.wit)) n os
          have z5 := fun n os => cell_grown (a := ⟨t6, 5, none⟩) (blk_lt hb6) (((blk_cell hb6 5).trans rfl) : w12.cell? _ = some (.string v.key)) n os
          have z6 := fun n os => cell_grown (a := ⟨t6, 6, none⟩) (blk_lt hb6) (((blk_cell hb6 6).trans rfl) : w12.cell? _ = some (.bool v.want)) n os
          have z7 := fun n os => cell_grown (a := ⟨t6, 7, none⟩) (blk_lt hb6) (((blk_cell hb6 7).trans rfl) : w12.cell? _ = some (.string v.exp)) n os
          have z8 := fun n os => cell_grown (a := ⟨t6, 8, none⟩) (blk_lt hb6) (((blk_cell hb6 8).trans rfl) : w12.cell? _ = some (.bool v.got)) n os
          have z9 := fun n os => cell_grown (a := ⟨t6, 9, none⟩) (blk_lt hb6) (((blk_cell hb6 9).trans rfl) : w12.cell? _ = some (.string v.obs)) n os
          have z10 := fun n os => cell_grown (a := ⟨t6, 10, none⟩) (blk_lt hb6) (((blk_cell hb6 10).trans rfl) : w12.cell? _ = some (.int .i64 v.frm)) n os
          have z11 := fun n os => cell_grown (a := ⟨t6, 11, none⟩) (blk_lt hb6) (((blk_cell hb6 11).trans rfl) : w12.cell? _ = some (.int .i64 v.to)) n os
          have hc : ∀ W : World, Calls Try.prog 21 #[u.agg, v.agg] W fun e w' => e = .returned (.bool b1) ∧ Laid W w' := fun W => by rw [HD1.out]; exact before_any u v W
          have HC := hid hc
          clear hc hu12
          go_upto_region 18 with fail
          go_quiet_grown (first | (go_at_call 21; refine Calls.grown_of (HC.out _)))
          have HL : Hid (Below w12.heap.size w12 (Go.Sort.grow (w12.drewN nq) osq)) := hid (Laid.below ⟨nq, osq, rfl⟩)
          clear HC y0 y1 y2 y3 y4 y5 y6 y7 y8 y9 y10 y11 z0 z1 z2 z3 z4 z5 z6 z7 z8 z9 z10 z11
          generalize Go.Sort.grow (w12.drewN nq) osq = w13 at HL ⊢
          have hu12 : ∀ j, j < 12 → w13.cell? ⟨x, ox + i1 * 12 + j, none⟩ = u.cs[j]? := fun j hj => (HL.out.cell (p := ⟨x, ox + i1 * 12 + j, none⟩) (Nat.lt_of_lt_of_le HXL.out (HWw12.out).size)).trans (HU.out w12 HWw12.out j hj)
          have hxl : x < w13.heap.size := Nat.lt_of_lt_of_le (Nat.lt_of_lt_of_le HXL.out HWw12.out.size) HL.out.size
          have hb6 := (HL.out.block t6 (blk_lt HB6.out)).trans HB6.out
          have WB := WB.trans (HL.out.mono WB.size)
          have WT := (HL.out.block t4 (blk_lt WT)).trans WT
          clear HB6
          have HB6 := hid hb6
          have HWw13 : Hid (Below w12.heap.size w12 w13) := hid (HWw12.out.trans (HL.out.mono HWw12.out.size))
          clear HL
          go_upto_if 65 with fail
          go_cut [8] from 36 to 94 (fun s8 wx => s8 = .int .i64 (if b1 = true then -1 else 0) ∧ wx = w13)
          case first =>
            cases b1 with
            | true =>
              go_wp2_with fail
              go_meet
              case rel => exact ⟨rfl, rfl⟩
            | false =>
              go_wp2_with fail
              go_meet
              case rel => exact ⟨rfl, rfl⟩
          case rest =>
            obtain ⟨e8, ewc⟩ := hcut
            subst e8
            rw [ewc]
            clear ewc
            obtain ⟨e9, he9⟩ : ∃ e9, (if b1 = true then (-1 : Int) else 0) = e9 := ⟨_, rfl⟩
            rw [he9]
            have HE9 := hid he9
            clear he9
            have y0 := fun n os => cell_grown (a := ⟨x, ox + i1 * 12, none⟩) hxl (hu12 0 (by omega) : w13.cell? _ = some (.int .i64 u.kind)) n os
            have y1 := fun n os => cell_grown (a := ⟨x, ox + i1 * 12 + 1, none⟩) hxl (hu12 1 (by omega) : w13.cell? _ = some (.int .i64 u.time)) n os
            have y2 := fun n os => cell_grown (a := ⟨x, ox + i1 * 12 + 2, none⟩) hxl (hu12 2 (by omega) : w13.cell? _ = some (.int .i64 u.txn)) n os
            have y3 := fun n os => cell_grown (a := ⟨x, ox + i1 * 12 + 3, none⟩) hxl (hu12 3 (by omega) : w13.cell? _ = some (.int .i64 u.op)) n os
            have y4 := fun n os => cell_grown (a := ⟨x, ox + i1 * 12 + 4, none⟩) hxl (hu12 4 (by omega) : w13.cell? _ = some (.int .i64 u.wit)) n os
            have y5 := fun n os => cell_grown (a := ⟨x, ox + i1 * 12 + 5, none⟩) hxl (hu12 5 (by omega) : w13.cell? _ = some (.string u.key)) n os
            have y6 := fun n os => cell_grown (a := ⟨x, ox + i1 * 12 + 6, none⟩) hxl (hu12 6 (by omega) : w13.cell? _ = some (.bool u.want)) n os
            have y7 := fun n os => cell_grown (a := ⟨x, ox + i1 * 12 + 7, none⟩) hxl (hu12 7 (by omega) : w13.cell? _ = some (.string u.exp)) n os
            have y8 := fun n os => cell_grown (a := ⟨x, ox + i1 * 12 + 8, none⟩) hxl (hu12 8 (by omega) : w13.cell? _ = some (.bool u.got)) n os
            have y9 := fun n os => cell_grown (a := ⟨x, ox + i1 * 12 + 9, none⟩) hxl (hu12 9 (by omega) : w13.cell? _ = some (.string u.obs)) n os
            have y10 := fun n os => cell_grown (a := ⟨x, ox + i1 * 12 + 10, none⟩) hxl (hu12 10 (by omega) : w13.cell? _ = some (.int .i64 u.frm)) n os
            have y11 := fun n os => cell_grown (a := ⟨x, ox + i1 * 12 + 11, none⟩) hxl (hu12 11 (by omega) : w13.cell? _ = some (.int .i64 u.to)) n os
            have z0 := fun n os => cell_grown (a := ⟨t6, 0, none⟩) (blk_lt hb6) (((blk_cell hb6 0).trans rfl) : w13.cell? _ = some (.int .i64 v.kind)) n os
            have z1 := fun n os => cell_grown (a := ⟨t6, 1, none⟩) (blk_lt hb6) (((blk_cell hb6 1).trans rfl) : w13.cell? _ = some (.int .i64 v.time)) n os
            have z2 := fun n os => cell_grown (a := ⟨t6, 2, none⟩) (blk_lt hb6) (((blk_cell hb6 2).trans rfl) : w13.cell? _ = some (.int .i64 v.txn)) n os
            have z3 := fun n os => cell_grown (a := ⟨t6, 3, none⟩) (blk_lt hb6) (((blk_cell hb6 3).trans rfl) : w13.cell? _ = some (.int .i64 v.op)) n os
            have z4 := fun n os => cell_grown (a := ⟨t6, 4, none⟩) (blk_lt hb6) (((blk_cell hb6 4).trans rfl) : w13.cell? _ = some (.int .i64 v.wit)) n os
            have z5 := fun n os => cell_grown (a := ⟨t6, 5, none⟩) (blk_lt hb6) (((blk_cell hb6 5).trans rfl) : w13.cell? _ = some (.string v.key)) n os
            have z6 := fun n os => cell_grown (a := ⟨t6, 6, none⟩) (blk_lt hb6) (((blk_cell hb6 6).trans rfl) : w13.cell? _ = some (.bool v.want)) n os
            have z7 := fun n os => cell_grown (a := ⟨t6, 7, none⟩) (blk_lt hb6) (((blk_cell hb6 7).trans rfl) : w13.cell? _ = some (.string v.exp)) n os
            have z8 := fun n os => cell_grown (a := ⟨t6, 8, none⟩) (blk_lt hb6) (((blk_cell hb6 8).trans rfl) : w13.cell? _ = some (.bool v.got)) n os
            have z9 := fun n os => cell_grown (a := ⟨t6, 9, none⟩) (blk_lt hb6) (((blk_cell hb6 9).trans rfl) : w13.cell? _ = some (.string v.obs)) n os
            have z10 := fun n os => cell_grown (a := ⟨t6, 10, none⟩) (blk_lt hb6) (((blk_cell hb6 10).trans rfl) : w13.cell? _ = some (.int .i64 v.frm)) n os
            have z11 := fun n os => cell_grown (a := ⟨t6, 11, none⟩) (blk_lt hb6) (((blk_cell hb6 11).trans rfl) : w13.cell? _ = some (.int .i64 v.to)) n os
            have hc : ∀ W : World, Calls Try.prog 21 #[v.agg, u.agg] W fun e w' => e = .returned (.bool b2) ∧ Laid W w' := fun W => by rw [HD2.out]; exact before_any v u W
            have HC := hid hc
            clear hc hu12
            go_upto_region 20 with fail
            go_quiet_grown (first | (go_at_call 21; refine Calls.grown_of (HC.out _)))
            have HL : Hid (Below w13.heap.size w13 (Go.Sort.grow (w13.drewN nq) osq)) := hid (Laid.below ⟨nq, osq, rfl⟩)
            clear HC y0 y1 y2 y3 y4 y5 y6 y7 y8 y9 y10 y11 z0 z1 z2 z3 z4 z5 z6 z7 z8 z9 z10 z11
            generalize Go.Sort.grow (w13.drewN nq) osq = w14 at HL ⊢
            have hu12 : ∀ j, j < 12 → w14.cell? ⟨x, ox + i1 * 12 + j, none⟩ = u.cs[j]? := fun j hj => (HL.out.cell (p := ⟨x, ox + i1 * 12 + j, none⟩) (Nat.lt_of_lt_of_le HXL.out (HWw13.out).size)).trans (HU.out w13 HWw13.out j hj)
            have hxl : x < w14.heap.size := Nat.lt_of_lt_of_le (Nat.lt_of_lt_of_le HXL.out HWw13.out.size) HL.out.size
            have hb6 := (HL.out.block t6 (blk_lt HB6.out)).trans HB6.out
            have WB := WB.trans (HL.out.mono WB.size)
            have WT := (HL.out.block t4 (blk_lt WT)).trans WT
            clear HB6
            have HB6 := hid hb6
            have HWw14 : Hid (Below w12.heap.size w12 w14) := hid (HWw13.out.trans (HL.out.mono HWw13.out.size))
            clear HL
            go_upto_if 72 with fail
            go_cut [8] from 36 to 94 (fun s8 wx => s8 = .int .i64 cv ∧ wx = w14)
            case first =>
              have hcm := HCM.out.1
              rw [HE9.out] at hcm
              have HCM9 := hid hcm
              clear hcm
              cases b2 with
              | true =>
                go_wp2_with fail
                go_meet
                case rel => exact ⟨congrArg (Value.int .i64) (show (1 : Int) = cv from HCM9.out), rfl⟩
              | false =>
                go_wp2_with fail
                go_meet
                case rel => exact ⟨congrArg (Value.int .i64) (show e9 = cv from HCM9.out), rfl⟩
            case rest =>
              obtain ⟨e8, ewc⟩ := hcut
              subst e8
              rw [ewc]
              clear ewc
              have y0 := fun n os => cell_grown (a := ⟨x, ox + i1 * 12, none⟩) hxl (hu12 0 (by omega) : w14.cell? _ = some (.int .i64 u.kind)) n os
              have y1 := fun n os => cell_grown (a := ⟨x, ox + i1 * 12 + 1, none⟩) hxl (hu12 1 (by omega) : w14.cell? _ = some (.int .i64 u.time)) n os
              have y2 := fun n os => cell_grown (a := ⟨x, ox + i1 * 12 + 2, none⟩) hxl (hu12 2 (by omega) : w14.cell? _ = some (.int .i64 u.txn)) n os
              have y3 := fun n os => cell_grown (a := ⟨x, ox + i1 * 12 + 3, none⟩) hxl (hu12 3 (by omega) : w14.cell? _ = some (.int .i64 u.op)) n os
              have y4 := fun n os => cell_grown (a := ⟨x, ox + i1 * 12 + 4, none⟩) hxl (hu12 4 (by omega) : w14.cell? _ = some (.int .i64 u.wit)) n os
              have y5 := fun n os => cell_grown (a := ⟨x, ox + i1 * 12 + 5, none⟩) hxl (hu12 5 (by omega) : w14.cell? _ = some (.string u.key)) n os
              have y6 := fun n os => cell_grown (a := ⟨x, ox + i1 * 12 + 6, none⟩) hxl (hu12 6 (by omega) : w14.cell? _ = some (.bool u.want)) n os
              have y7 := fun n os => cell_grown (a := ⟨x, ox + i1 * 12 + 7, none⟩) hxl (hu12 7 (by omega) : w14.cell? _ = some (.string u.exp)) n os
              have y8 := fun n os => cell_grown (a := ⟨x, ox + i1 * 12 + 8, none⟩) hxl (hu12 8 (by omega) : w14.cell? _ = some (.bool u.got)) n os
              have y9 := fun n os => cell_grown (a := ⟨x, ox + i1 * 12 + 9, none⟩) hxl (hu12 9 (by omega) : w14.cell? _ = some (.string u.obs)) n os
              have y10 := fun n os => cell_grown (a := ⟨x, ox + i1 * 12 + 10, none⟩) hxl (hu12 10 (by omega) : w14.cell? _ = some (.int .i64 u.frm)) n os
              have y11 := fun n os => cell_grown (a := ⟨x, ox + i1 * 12 + 11, none⟩) hxl (hu12 11 (by omega) : w14.cell? _ = some (.int .i64 u.to)) n os
              have z0 := fun n os => cell_grown (a := ⟨t6, 0, none⟩) (blk_lt hb6) (((blk_cell hb6 0).trans rfl) : w14.cell? _ = some (.int .i64 v.kind)) n os
              have z1 := fun n os => cell_grown (a := ⟨t6, 1, none⟩) (blk_lt hb6) (((blk_cell hb6 1).trans rfl) : w14.cell? _ = some (.int .i64 v.time)) n os
              have z2 := fun n os => cell_grown (a := ⟨t6, 2, none⟩) (blk_lt hb6) (((blk_cell hb6 2).trans rfl) : w14.cell? _ = some (.int .i64 v.txn)) n os
              have z3 := fun n os => cell_grown (a := ⟨t6, 3, none⟩) (blk_lt hb6) (((blk_cell hb6 3).trans rfl) : w14.cell? _ = some (.int .i64 v.op)) n os
              have z4 := fun n os => cell_grown (a := ⟨t6, 4, none⟩) (blk_lt hb6) (((blk_cell hb6 4).trans rfl) : w14.cell? _ = some (.int .i64 v.wit)) n os
              have z5 := fun n os => cell_grown (a := ⟨t6, 5, none⟩) (blk_lt hb6) (((blk_cell hb6 5).trans rfl) : w14.cell? _ = some (.string v.key)) n os
              have z6 := fun n os => cell_grown (a := ⟨t6, 6, none⟩) (blk_lt hb6) (((blk_cell hb6 6).trans rfl) : w14.cell? _ = some (.bool v.want)) n os
              have z7 := fun n os => cell_grown (a := ⟨t6, 7, none⟩) (blk_lt hb6) (((blk_cell hb6 7).trans rfl) : w14.cell? _ = some (.string v.exp)) n os
              have z8 := fun n os => cell_grown (a := ⟨t6, 8, none⟩) (blk_lt hb6) (((blk_cell hb6 8).trans rfl) : w14.cell? _ = some (.bool v.got)) n os
              have z9 := fun n os => cell_grown (a := ⟨t6, 9, none⟩) (blk_lt hb6) (((blk_cell hb6 9).trans rfl) : w14.cell? _ = some (.string v.obs)) n os
              have z10 := fun n os => cell_grown (a := ⟨t6, 10, none⟩) (blk_lt hb6) (((blk_cell hb6 10).trans rfl) : w14.cell? _ = some (.int .i64 v.frm)) n os
              have z11 := fun n os => cell_grown (a := ⟨t6, 11, none⟩) (blk_lt hb6) (((blk_cell hb6 11).trans rfl) : w14.cell? _ = some (.int .i64 v.to)) n os
              have wneg : IntKind.i64.wrap (-cv) = -cv := HCM.out.2.2
              have hc1 : ∀ W : World, Calls Try.prog 17 #[u.agg, v.agg] W fun e w' => e = .returned (.int .i64 cv) ∧ Laid W w' := fun W => by rw [HCV2.out]; exact compare_any u v W
              have hc2 : ∀ W : World, Calls Try.prog 17 #[v.agg, u.agg] W fun e w' => e = .returned (.int .i64 (-cv)) ∧ Laid W w' := fun W => by rw [← HCM.out.2.1]; exact compare_any v u W
              have HC1 := hid hc1
              have HC2 := hid hc2
              clear hc1 hc2 hu12 hb6 hxl
              go_upto_region 22 with fail
              go_quiet_grown (first | (go_at_call 17; with_reducible refine Calls.grown_of (HC1.out _)) | (go_at_call 17; with_reducible refine Calls.grown_of (HC2.out _)))
              have HL : Hid (Below w14.heap.size w14 (Go.Sort.grow (w14.drewN nq) osq)) := hid (Laid.below ⟨nq, osq, rfl⟩)
              clear HC1 HC2 y0 y1 y2 y3 y4 y5 y6 y7 y8 y9 y10 y11 z0 z1 z2 z3 z4 z5 z6 z7 z8 z9 z10 z11
              generalize Go.Sort.grow (w14.drewN nq) osq = w15 at HL ⊢
              have WB := WB.trans (HL.out.mono WB.size)
              have WT := (HL.out.block t4 (blk_lt WT)).trans WT
              have WB := hid WB
              have WT := hid WT
              clear HL
              go_wp2_with fail
              go_roundg (n - (i + 1))
              case measure => have := HLT.out; omega
              case rel => exact ⟨i + 1, HLT.out, rfl, by go_num, hid ⟨WB.out, WT.out⟩⟩
      · by_cases hk2 : 10 < v.kind
        · have hk11 : (0 : Nat) < 11 := by omega
          have HCL : Hid (clsV l[i] = 0) := hid (by rw [← HV.out]; exact hcl.2 (by unfold inB; rw [decide_eq_true (show 1 ≤ v.kind by omega), decide_eq_false (by omega)]; rfl))
          clear hcl
          obtain ⟨cc, hcc⟩ : ∃ cc, cc = tl (l.take i) 0 := ⟨_, rfl⟩
          have ct : w11.cell? ⟨t4, 0, none⟩ = some (.int .i64 cc) := by rw [blk_cell H11.out.2, hcc]; exact cellsT_get _ hk11
          have cf := blk_free H11.out.2 0
          have wc : IntKind.i64.wrap (cc + 1) = cc + 1 := by
            have := tl_le l i 0
            have := HML.out
            have := HN.out
            have := HLT.out
            rw [IntKind.wrap_i64]
            omega
          have HCC := hid hcc
          clear hcc hk11
          go_upto_region 16 with fail
          have WT : (w11.setCell ⟨t4, 0, none⟩ (.int .i64 (cc + 1))).heap[t4]? = some (.cells (cellsT (l.take (i + 1))) 46 (0, 0)) := by
            have h := heap_setCell_same w11 t4 0 _ _ (.int .i64 (cc + 1)) H11.out.2
            rw [h, HCC.out, cellsT_step l hil HCL.out]
          have WB : Below w7.heap.size w7 (w11.setCell ⟨t4, 0, none⟩ (.int .i64 (cc + 1))) := H11.out.1.setCell (p := ⟨t4, 0, none⟩) HT4.out _
          have HB6 : Hid ((w11.setCell ⟨t4, 0, none⟩ (.int .i64 (cc + 1))).heap[t6]? = some (.cells #[.int .i64 v.kind, .int .i64 v.time, .int .i64 v.txn, .int .i64 v.op, .int .i64 v.wit, .string v.key, .bool v.want, .string v.exp, .bool v.got, .string v.obs, .int .i64 v.frm, .int .i64 v.to] 30 (0, 0))) := hid (((Upd.refl (fun k => k = t4) w11).setCell (p := ⟨t4, 0, none⟩) (fun _ => rfl) _).block t6 (blk_lt HX6.out) HN46.out |>.trans HX6.out)
          generalize w11.setCell ⟨t4, 0, none⟩ (.int .i64 (cc + 1)) = w12 at WT WB HB6 ⊢
          clear ct cf wc
          by_cases hi0 : i = 0
          · subst hi0
            have WT := hid WT
            have WB := hid WB
            clear hi0I
            go_wp2_with fail
            go_roundg (n - (0 + 1))
            case measure => have := HLT.out; omega
            case rel => exact ⟨0 + 1, HLT.out, rfl, by go_num, hid ⟨WB.out, WT.out⟩⟩
          · have hi0P : (0 : Int) < (i : Int) := by omega
            have hi0N : 0 < i := by omega
            obtain ⟨i1, hi1⟩ : ∃ i1, i1 = i - 1 := ⟨_, rfl⟩
            have wi1 : IntKind.i64.wrap ((i : Int) - 1) = (i1 : Int) := by rw [IntKind.wrap_i64]; have := HML.out; have := HN.out; have := HLT.out; omega
            have hi1n : i1 < n := by have := HLT.out; omega
            have hi1I : (i1 : Int) < (n : Int) := by omega
            have hi1l : i1 < l.length := by rw [← HN.out]; exact hi1n
            obtain ⟨u, hu⟩ : ∃ u, u = l[i1] := ⟨_, rfl⟩
            have HU : Hid (∀ W : World, Below w12.heap.size w12 W → ∀ j, j < 12 → W.cell? ⟨x, ox + i1 * 12 + j, none⟩ = u.cs[j]?) := hid fun W hb j hj => by
              rw [hu]
              exact ((WB.trans (hb.mono WB.size)).cell (p := ⟨x, ox + i1 * 12 + j, none⟩) HXL7.out).trans (HXC.out i1 hi1l j hj)
            have HXL : Hid (x < w12.heap.size) := hid (Nat.lt_of_lt_of_le HXL7.out WB.size)
            have hu12 : ∀ j, j < 12 → w12.cell? ⟨x, ox + i1 * 12 + j, none⟩ = u.cs[j]? := HU.out w12 (Below.refl _ _)
            have hxl : x < w12.heap.size := HXL.out
            have hb6 := HB6.out
            have HWw12 : Hid (Below w12.heap.size w12 w12) := hid (Below.refl _ _)
            have mixed := mixedT
            clear hu hi1 hi1n hi1l hi0
            obtain ⟨cv, hcv⟩ : ∃ cv, cv = cmpV u v := ⟨_, rfl⟩
            obtain ⟨b1, hb1⟩ : ∃ b1, b1 = decide (ltV u v) := ⟨_, rfl⟩
            obtain ⟨b2, hb2⟩ : ∃ b2, b2 = decide (ltV v u) := ⟨_, rfl⟩
            have HCV2 := hid hcv
            have HD1 := hid hb1
            have HD2 := hid hb2
            have HCM : Hid ((if b2 = true then (1 : Int) else if b1 = true then -1 else 0) = cv ∧ cmpV v u = -cv ∧ IntKind.i64.wrap (-cv) = -cv) := hid (by rw [hb1, hb2, hcv]; exact cmpV_both u v)
            clear hcv hb1 hb2
            have y0 := fun n os => cell_grown (a := ⟨x, ox + i1 * 12, none⟩) hxl (hu12 0 (by omega) : w12.cell? _ = some (.int .i64 u.kind)) n os
            have y1 := fun n os => cell_grown (a := ⟨x, ox + i1 * 12 + 1, none⟩) hxl (hu12 1 (by omega) : w12.cell? _ = some (.int .i64 u.time)) n os
            have y2 := fun n os => cell_grown (a := ⟨x, ox + i1 * 12 + 2, none⟩) hxl (hu12 2 (by omega) : w12.cell? _ = some (.int .i64 u.txn)) n os
            have y3 := fun n os => cell_grown (a := ⟨x, ox + i1 * 12 + 3, none⟩) hxl (hu12 3 (by omega) : w12.cell? _ = some (.int .i64 u.op)) n os
            have y4 := fun n os => cell_grown (a := ⟨x, ox + i1 * 12 + 4, none⟩) hxl (hu12 4 (by omega) : w12.cell? _ = some (.int .i64 u.wit)) n os
            have y5 := fun n os => cell_grown (a := ⟨x, ox + i1 * 12 + 5, none⟩) hxl (hu12 5 (by omega) : w12.cell? _ = some (.string u.key)) n os
            have y6 := fun n os => cell_grown (a := ⟨x, ox + i1 * 12 + 6, none⟩) hxl (hu12 6 (by omega) : w12.cell? _ = some (.bool u.want)) n os
            have y7 := fun n os => cell_grown (a := ⟨x, ox + i1 * 12 + 7, none⟩) hxl (hu12 7 (by omega) : w12.cell? _ = some (.string u.exp)) n os
            have y8 := fun n os => cell_grown (a := ⟨x, ox + i1 * 12 + 8, none⟩) hxl (hu12 8 (by omega) : w12.cell? _ = some (.bool u.got)) n os
            have y9 := fun n os => cell_grown (a := ⟨x, ox + i1 * 12 + 9, none⟩) hxl (hu12 9 (by omega) : w12.cell? _ = some (.string u.obs)) n os
            have y10 := fun n os => cell_grown (a := ⟨x, ox + i1 * 12 + 10, none⟩) hxl (hu12 10 (by omega) : w12.cell? _ = some (.int .i64 u.frm)) n os
            have y11 := fun n os => cell_grown (a := ⟨x, ox + i1 * 12 + 11, none⟩) hxl (hu12 11 (by omega) : w12.cell? _ = some (.int .i64 u.to)) n os
            have z0 := fun n os => cell_grown (a := ⟨t6, 0, none⟩) (blk_lt hb6) (((blk_cell hb6 0).trans rfl) : w12.cell? _ = some (.int .i64 v.kind)) n os
            have z1 := fun n os => cell_grown (a := ⟨t6, 1, none⟩) (blk_lt hb6) (((blk_cell hb6 1).trans rfl) : w12.cell? _ = some (.int .i64 v.time)) n os
            have z2 := fun n os => cell_grown (a := ⟨t6, 2, none⟩) (blk_lt hb6) (((blk_cell hb6 2).trans rfl) : w12.cell? _ = some (.int .i64 v.txn)) n os
            have z3 := fun n os => cell_grown (a := ⟨t6, 3, none⟩) (blk_lt hb6) (((blk_cell hb6 3).trans rfl) : w12.cell? _ = some (.int .i64 v.op)) n os
            have z4 := fun n os => cell_grown (a := ⟨t6, 4, none⟩) (blk_lt hb6) (((blk_cell hb6 4).trans rfl) : w12.cell? _ = some (.int .i64 v.wit)) n os
            have z5 := fun n os => cell_grown (a := ⟨t6, 5, none⟩) (blk_lt hb6) (((blk_cell hb6 5).trans rfl) : w12.cell? _ = some (.string v.key)) n os
            have z6 := fun n os => cell_grown (a := ⟨t6, 6, none⟩) (blk_lt hb6) (((blk_cell hb6 6).trans rfl) : w12.cell? _ = some (.bool v.want)) n os
            have z7 := fun n os => cell_grown (a := ⟨t6, 7, none⟩) (blk_lt hb6) (((blk_cell hb6 7).trans rfl) : w12.cell? _ = some (.string v.exp)) n os
            have z8 := fun n os => cell_grown (a := ⟨t6, 8, none⟩) (blk_lt hb6) (((blk_cell hb6 8).trans rfl) : w12.cell? _ = some (.bool v.got)) n os
            have z9 := fun n os => cell_grown (a := ⟨t6, 9, none⟩) (blk_lt hb6) (((blk_cell hb6 9).trans rfl) : w12.cell? _ = some (.string v.obs)) n os
            have z10 := fun n os => cell_grown (a := ⟨t6, 10, none⟩) (blk_lt hb6) (((blk_cell hb6 10).trans rfl) : w12.cell? _ = some (.int .i64 v.frm)) n os
            have z11 := fun n os => cell_grown (a := ⟨t6, 11, none⟩) (blk_lt hb6) (((blk_cell hb6 11).trans rfl) : w12.cell? _ = some (.int .i64 v.to)) n os
            have hc : ∀ W : World, Calls Try.prog 21 #[u.agg, v.agg] W fun e w' => e = .returned (.bool b1) ∧ Laid W w' := fun W => by rw [HD1.out]; exact before_any u v W
            have HC := hid hc
            clear hc hu12
            go_upto_region 18 with fail
            go_quiet_grown (first | (go_at_call 21; refine Calls.grown_of (HC.out _)))
            have HL : Hid (Below w12.heap.size w12 (Go.Sort.grow (w12.drewN nq) osq)) := hid (Laid.below ⟨nq, osq, rfl⟩)
            clear HC y0 y1 y2 y3 y4 y5 y6 y7 y8 y9 y10 y11 z0 z1 z2 z3 z4 z5 z6 z7 z8 z9 z10 z11
            generalize Go.Sort.grow (w12.drewN nq) osq = w13 at HL ⊢
            have hu12 : ∀ j, j < 12 → w13.cell? ⟨x, ox + i1 * 12 + j, none⟩ = u.cs[j]? := fun j hj => (HL.out.cell (p := ⟨x, ox + i1 * 12 + j, none⟩) (Nat.lt_of_lt_of_le HXL.out (HWw12.out).size)).trans (HU.out w12 HWw12.out j hj)
            have hxl : x < w13.heap.size := Nat.lt_of_lt_of_le (Nat.lt_of_lt_of_le HXL.out HWw12.out.size) HL.out.size
            have hb6 := (HL.out.block t6 (blk_lt HB6.out)).trans HB6.out
            have WB := WB.trans (HL.out.mono WB.size)
            have WT := (HL.out.block t4 (blk_lt WT)).trans WT
            clear HB6
            have HB6 := hid hb6
            have HWw13 : Hid (Below w12.heap.size w12 w13) := hid (HWw12.out.trans (HL.out.mono HWw12.out.size))
            clear HL
            go_upto_if 65 with fail
            go_cut [8] from 36 to 94 (fun s8 wx => s8 = .int .i64 (if b1 = true then -1 else 0) ∧ wx = w13)
            case first =>
              cases b1 with
              | true =>
                go_wp2_with fail
                go_meet
                case rel => exact ⟨rfl, rfl⟩
              | false =>
                go_wp2_with fail
                go_meet
                case rel => exact ⟨rfl, rfl⟩
            case rest =>
              obtain ⟨e8, ewc⟩ := hcut
              subst e8
              rw [ewc]
              clear ewc
              obtain ⟨e9, he9⟩ : ∃ e9, (if b1 = true then (-1 : Int) else 0) = e9 := ⟨_, rfl⟩
              rw [he9]
              have HE9 := hid he9
              clear he9
              have y0 := fun n os => cell_grown (a := ⟨x, ox + i1 * 12, none⟩) hxl (hu12 0 (by omega) : w13.cell? _ = some (.int .i64 u.kind)) n os
              have y1 := fun n os => cell_grown (a := ⟨x, ox + i1 * 12 + 1, none⟩) hxl (hu12 1 (by omega) : w13.cell? _ = some (.int .i64 u.time)) n os
              have y2 := fun n os => cell_grown (a := ⟨x, ox + i1 * 12 + 2, none⟩) hxl (hu12 2 (by omega) : w13.cell? _ = some (.int .i64 u.txn)) n os
              have y3 := fun n os => cell_grown (a := ⟨x, ox + i1 * 12 + 3, none⟩) hxl (hu12 3 (by omega) : w13.cell? _ = some (.int .i64 u.op)) n os
              have y4 := fun n os => cell_grown (a := ⟨x, ox + i1 * 12 + 4, none⟩) hxl (hu12 4 (by omega) : w13.cell? _ = some (.int .i64 u.wit)) n os
              have y5 := fun n os => cell_grown (a := ⟨x, ox + i1 * 12 + 5, none⟩) hxl (hu12 5 (by omega) : w13.cell? _ = some (.string u.key)) n os
              have y6 := fun n os => cell_grown (a := ⟨x, ox + i1 * 12 + 6, none⟩) hxl (hu12 6 (by omega) : w13.cell? _ = some (.bool u.want)) n os
              have y7 := fun n os => cell_grown (a := ⟨x, ox + i1 * 12 + 7, none⟩) hxl (hu12 7 (by omega) : w13.cell? _ = some (.string u.exp)) n os
              have y8 := fun n os => cell_grown (a := ⟨x, ox + i1 * 12 + 8, none⟩) hxl (hu12 8 (by omega) : w13.cell? _ = some (.bool u.got)) n os
              have y9 := fun n os => cell_grown (a := ⟨x, ox + i1 * 12 + 9, none⟩) hxl (hu12 9 (by omega) : w13.cell? _ = some (.string u.obs)) n os
              have y10 := fun n os => cell_grown (a := ⟨x, ox + i1 * 12 + 10, none⟩) hxl (hu12 10 (by omega) : w13.cell? _ = some (.int .i64 u.frm)) n os
              have y11 := fun n os => cell_grown (a := ⟨x, ox + i1 * 12 + 11, none⟩) hxl (hu12 11 (by omega) : w13.cell? _ = some (.int .i64 u.to)) n os
              have z0 := fun n os => cell_grown (a := ⟨t6, 0, none⟩) (blk_lt hb6) (((blk_cell hb6 0).trans rfl) : w13.cell? _ = some (.int .i64 v.kind)) n os
              have z1 := fun n os => cell_grown (a := ⟨t6, 1, none⟩) (blk_lt hb6) (((blk_cell hb6 1).trans rfl) : w13.cell? _ = some (.int .i64 v.time)) n os
              have z2 := fun n os => cell_grown (a := ⟨t6, 2, none⟩) (blk_lt hb6) (((blk_cell hb6 2).trans rfl) : w13.cell? _ = some (.int .i64 v.txn)) n os
              have z3 := fun n os => cell_grown (a := ⟨t6, 3, none⟩) (blk_lt hb6) (((blk_cell hb6 3).trans rfl) : w13.cell? _ = some (.int .i64 v.op)) n os
              have z4 := fun n os => cell_grown (a := ⟨t6, 4, none⟩) (blk_lt hb6) (((blk_cell hb6 4).trans rfl) : w13.cell? _ = some (.int .i64 v.wit)) n os
              have z5 := fun n os => cell_grown (a := ⟨t6, 5, none⟩) (blk_lt hb6) (((blk_cell hb6 5).trans rfl) : w13.cell? _ = some (.string v.key)) n os
              have z6 := fun n os => cell_grown (a := ⟨t6, 6, none⟩) (blk_lt hb6) (((blk_cell hb6 6).trans rfl) : w13.cell? _ = some (.bool v.want)) n os
              have z7 := fun n os => cell_grown (a := ⟨t6, 7, none⟩) (blk_lt hb6) (((blk_cell hb6 7).trans rfl) : w13.cell? _ = some (.string v.exp)) n os
              have z8 := fun n os => cell_grown (a := ⟨t6, 8, none⟩) (blk_lt hb6) (((blk_cell hb6 8).trans rfl) : w13.cell? _ = some (.bool v.got)) n os
              have z9 := fun n os => cell_grown (a := ⟨t6, 9, none⟩) (blk_lt hb6) (((blk_cell hb6 9).trans rfl) : w13.cell? _ = some (.string v.obs)) n os
              have z10 := fun n os => cell_grown (a := ⟨t6, 10, none⟩) (blk_lt hb6) (((blk_cell hb6 10).trans rfl) : w13.cell? _ = some (.int .i64 v.frm)) n os
              have z11 := fun n os => cell_grown (a := ⟨t6, 11, none⟩) (blk_lt hb6) (((blk_cell hb6 11).trans rfl) : w13.cell? _ = some (.int .i64 v.to)) n os
              have hc : ∀ W : World, Calls Try.prog 21 #[v.agg, u.agg] W fun e w' => e = .returned (.bool b2) ∧ Laid W w' := fun W => by rw [HD2.out]; exact before_any v u W
              have HC := hid hc
              clear hc hu12
              go_upto_region 20 with fail
              go_quiet_grown (first | (go_at_call 21; refine Calls.grown_of (HC.out _)))
              have HL : Hid (Below w13.heap.size w13 (Go.Sort.grow (w13.drewN nq) osq)) := hid (Laid.below ⟨nq, osq, rfl⟩)
              clear HC y0 y1 y2 y3 y4 y5 y6 y7 y8 y9 y10 y11 z0 z1 z2 z3 z4 z5 z6 z7 z8 z9 z10 z11
              generalize Go.Sort.grow (w13.drewN nq) osq = w14 at HL ⊢
              have hu12 : ∀ j, j < 12 → w14.cell? ⟨x, ox + i1 * 12 + j, none⟩ = u.cs[j]? := fun j hj => (HL.out.cell (p := ⟨x, ox + i1 * 12 + j, none⟩) (Nat.lt_of_lt_of_le HXL.out (HWw13.out).size)).trans (HU.out w13 HWw13.out j hj)
              have hxl : x < w14.heap.size := Nat.lt_of_lt_of_le (Nat.lt_of_lt_of_le HXL.out HWw13.out.size) HL.out.size
              have hb6 := (HL.out.block t6 (blk_lt HB6.out)).trans HB6.out
              have WB := WB.trans (HL.out.mono WB.size)
              have WT := (HL.out.block t4 (blk_lt WT)).trans WT
              clear HB6
              have HB6 := hid hb6
              have HWw14 : Hid (Below w12.heap.size w12 w14) := hid (HWw13.out.trans (HL.out.mono HWw13.out.size))
              clear HL
              go_upto_if 72 with fail
              go_cut [8] from 36 to 94 (fun s8 wx => s8 = .int .i64 cv ∧ wx = w14)
              case first =>
                have hcm := HCM.out.1
                rw [HE9.out] at hcm
                have HCM9 := hid hcm
                clear hcm
                cases b2 with
                | true =>
                  go_wp2_with fail
                  go_meet
                  case rel => exact ⟨congrArg (Value.int .i64) (show (1 : Int) = cv from HCM9.out), rfl⟩
                | false =>
                  go_wp2_with fail
                  go_meet
                  case rel => exact ⟨congrArg (Value.int .i64) (show e9 = cv from HCM9.out), rfl⟩
              case rest =>
                obtain ⟨e8, ewc⟩ := hcut
                subst e8
                rw [ewc]
                clear ewc
                have y0 := fun n os => cell_grown (a := ⟨x, ox + i1 * 12, none⟩) hxl (hu12 0 (by omega) : w14.cell? _ = some (.int .i64 u.kind)) n os
                have y1 := fun n os => cell_grown (a := ⟨x, ox + i1 * 12 + 1, none⟩) hxl (hu12 1 (by omega) : w14.cell? _ = some (.int .i64 u.time)) n os
                have y2 := fun n os => cell_grown (a := ⟨x, ox + i1 * 12 + 2, none⟩) hxl (hu12 2 (by omega) : w14.cell? _ = some (.int .i64 u.txn)) n os
                have y3 := fun n os => cell_grown (a := ⟨x, ox + i1 * 12 + 3, none⟩) hxl (hu12 3 (by omega) : w14.cell? _ = some (.int .i64 u.op)) n os
                have y4 := fun n os => cell_grown (a := ⟨x, ox + i1 * 12 + 4, none⟩) hxl (hu12 4 (by omega) : w14.cell? _ = some (.int .i64 u.wit)) n os
                have y5 := fun n os => cell_grown (a := ⟨x, ox + i1 * 12 + 5, none⟩) hxl (hu12 5 (by omega) : w14.cell? _ = some (.string u.key)) n os
                have y6 := fun n os => cell_grown (a := ⟨x, ox + i1 * 12 + 6, none⟩) hxl (hu12 6 (by omega) : w14.cell? _ = some (.bool u.want)) n os
                have y7 := fun n os => cell_grown (a := ⟨x, ox + i1 * 12 + 7, none⟩) hxl (hu12 7 (by omega) : w14.cell? _ = some (.string u.exp)) n os
                have y8 := fun n os => cell_grown (a := ⟨x, ox + i1 * 12 + 8, none⟩) hxl (hu12 8 (by omega) : w14.cell? _ = some (.bool u.got)) n os
                have y9 := fun n os => cell_grown (a := ⟨x, ox + i1 * 12 + 9, none⟩) hxl (hu12 9 (by omega) : w14.cell? _ = some (.string u.obs)) n os
                have y10 := fun n os => cell_grown (a := ⟨x, ox + i1 * 12 + 10, none⟩) hxl (hu12 10 (by omega) : w14.cell? _ = some (.int .i64 u.frm)) n os
                have y11 := fun n os => cell_grown (a := ⟨x, ox + i1 * 12 + 11, none⟩) hxl (hu12 11 (by omega) : w14.cell? _ = some (.int .i64 u.to)) n os
                have z0 := fun n os => cell_grown (a := ⟨t6, 0, none⟩) (blk_lt hb6) (((blk_cell hb6 0).trans rfl) : w14.cell? _ = some (.int .i64 v.kind)) n os
                have z1 := fun n os => cell_grown (a := ⟨t6, 1, none⟩) (blk_lt hb6) (((blk_cell hb6 1).trans rfl) : w14.cell? _ = some (.int .i64 v.time)) n os
                have z2 := fun n os => cell_grown (a := ⟨t6, 2, none⟩) (blk_lt hb6) (((blk_cell hb6 2).trans rfl) : w14.cell? _ = some (.int .i64 v.txn)) n os
                have z3 := fun n os => cell_grown (a := ⟨t6, 3, none⟩) (blk_lt hb6) (((blk_cell hb6 3).trans rfl) : w14.cell? _ = some (.int .i64 v.op)) n os
                have z4 := fun n os => cell_grown (a := ⟨t6, 4, none⟩) (blk_lt hb6) (((blk_cell hb6 4).trans rfl) : w14.cell? _ = some (.int .i64 v.wit)) n os
                have z5 := fun n os => cell_grown (a := ⟨t6, 5, none⟩) (blk_lt hb6) (((blk_cell hb6 5).trans rfl) : w14.cell? _ = some (.string v.key)) n os
                have z6 := fun n os => cell_grown (a := ⟨t6, 6, none⟩) (blk_lt hb6) (((blk_cell hb6 6).trans rfl) : w14.cell? _ = some (.bool v.want)) n os
                have z7 := fun n os => cell_grown (a := ⟨t6, 7, none⟩) (blk_lt hb6) (((blk_cell hb6 7).trans rfl) : w14.cell? _ = some (.string v.exp)) n os
                have z8 := fun n os => cell_grown (a := ⟨t6, 8, none⟩) (blk_lt hb6) (((blk_cell hb6 8).trans rfl) : w14.cell? _ = some (.bool v.got)) n os
                have z9 := fun n os => cell_grown (a := ⟨t6, 9, none⟩) (blk_lt hb6) (((blk_cell hb6 9).trans rfl) : w14.cell? _ = some (.string v.obs)) n os
                have z10 := fun n os => cell_grown (a := ⟨t6, 10, none⟩) (blk_lt hb6) (((blk_cell hb6 10).trans rfl) : w14.cell? _ = some (.int .i64 v.frm)) n os
                have z11 := fun n os => cell_grown (a := ⟨t6, 11, none⟩) (blk_lt hb6) (((blk_cell hb6 11).trans rfl) : w14.cell? _ = some (.int .i64 v.to)) n os
                have wneg : IntKind.i64.wrap (-cv) = -cv := HCM.out.2.2
                have hc1 : ∀ W : World, Calls Try.prog 17 #[u.agg, v.agg] W fun e w' => e = .returned (.int .i64 cv) ∧ Laid W w' := fun W => by rw [HCV2.out]; exact compare_any u v W
                have hc2 : ∀ W : World, Calls Try.prog 17 #[v.agg, u.agg] W fun e w' => e = .returned (.int .i64 (-cv)) ∧ Laid W w' := fun W => by rw [← HCM.out.2.1]; exact compare_any v u W
                have HC1 := hid hc1
                have HC2 := hid hc2
                clear hc1 hc2 hu12 hb6 hxl
                go_upto_region 22 with fail
                go_quiet_grown (first | (go_at_call 17; with_reducible refine Calls.grown_of (HC1.out _)) | (go_at_call 17; with_reducible refine Calls.grown_of (HC2.out _)))
                have HL : Hid (Below w14.heap.size w14 (Go.Sort.grow (w14.drewN nq) osq)) := hid (Laid.below ⟨nq, osq, rfl⟩)
                clear HC1 HC2 y0 y1 y2 y3 y4 y5 y6 y7 y8 y9 y10 y11 z0 z1 z2 z3 z4 z5 z6 z7 z8 z9 z10 z11
                generalize Go.Sort.grow (w14.drewN nq) osq = w15 at HL ⊢
                have WB := WB.trans (HL.out.mono WB.size)
                have WT := (HL.out.block t4 (blk_lt WT)).trans WT
                have WB := hid WB
                have WT := hid WT
                clear HL
                go_wp2_with fail
                go_roundg (n - (i + 1))
                case measure => have := HLT.out; omega
                case rel => exact ⟨i + 1, HLT.out, rfl, by go_num, hid ⟨WB.out, WT.out⟩⟩
        · obtain ⟨kk, hkk⟩ := Int.eq_ofNat_of_zero_le (show 0 ≤ v.kind by omega)
          have hk11 : kk < 11 := by omega
          have HCL : Hid (clsV l[i] = kk) := hid (by
            obtain ⟨h1, _⟩ := hcl.1 (by unfold inB; rw [decide_eq_true (show 1 ≤ v.kind by omega), decide_eq_true (show v.kind ≤ 10 by omega)]; rfl)
            rw [← HV.out, h1, hkk]
            rfl)
          have hk0 : w11.cell? ⟨t6, 0, none⟩ = some (.int .i64 (kk : Int)) := by rw [k0, hkk]
          have hkI : (kk : Int) < 11 := by omega
          have hk1I : ¬ (kk : Int) < 1 := by omega
          have hk2I : ¬ (10 : Int) < (kk : Int) := by omega
          have hk1N : ¬ kk < 1 := by omega
          have hk2N : ¬ 10 < kk := by omega
          clear hcl k0 hkk hk1 hk2
          obtain ⟨cc, hcc⟩ : ∃ cc, cc = tl (l.take i) kk := ⟨_, rfl⟩
          have ct : w11.cell? ⟨t4, kk, none⟩ = some (.int .i64 cc) := by rw [blk_cell H11.out.2, hcc]; exact cellsT_get _ hk11
          have cf := blk_free H11.out.2 kk
          have wc : IntKind.i64.wrap (cc + 1) = cc + 1 := by
            have := tl_le l i kk
            have := HML.out
            have := HN.out
            have := HLT.out
            rw [IntKind.wrap_i64]
            omega
          have HCC := hid hcc
          clear hcc hk11
          go_upto_region 16 with fail
          have WT : (w11.setCell ⟨t4, kk, none⟩ (.int .i64 (cc + 1))).heap[t4]? = some (.cells (cellsT (l.take (i + 1))) 46 (0, 0)) := by
            have h := heap_setCell_same w11 t4 kk _ _ (.int .i64 (cc + 1)) H11.out.2
            rw [h, HCC.out, cellsT_step l hil HCL.out]
          have WB : Below w7.heap.size w7 (w11.setCell ⟨t4, kk, none⟩ (.int .i64 (cc + 1))) := H11.out.1.setCell (p := ⟨t4, kk, none⟩) HT4.out _
          have HB6 : Hid ((w11.setCell ⟨t4, kk, none⟩ (.int .i64 (cc + 1))).heap[t6]? = some (.cells #[.int .i64 v.kind, .int .i64 v.time, .int .i64 v.txn, .int .i64 v.op, .int .i64 v.wit, .string v.key, .bool v.want, .string v.exp, .bool v.got, .string v.obs, .int .i64 v.frm, .int .i64 v.to] 30 (0, 0))) := hid (((Upd.refl (fun k => k = t4) w11).setCell (p := ⟨t4, kk, none⟩) (fun _ => rfl) _).block t6 (blk_lt HX6.out) HN46.out |>.trans HX6.out)
          generalize w11.setCell ⟨t4, kk, none⟩ (.int .i64 (cc + 1)) = w12 at WT WB HB6 ⊢
          clear ct cf wc
          by_cases hi0 : i = 0
          · subst hi0
            have WT := hid WT
            have WB := hid WB
            clear hi0I
            go_wp2_with fail
            go_roundg (n - (0 + 1))
            case measure => have := HLT.out; omega
            case rel => exact ⟨0 + 1, HLT.out, rfl, by go_num, hid ⟨WB.out, WT.out⟩⟩
          · have hi0P : (0 : Int) < (i : Int) := by omega
            have hi0N : 0 < i := by omega
            obtain ⟨i1, hi1⟩ : ∃ i1, i1 = i - 1 := ⟨_, rfl⟩
            have wi1 : IntKind.i64.wrap ((i : Int) - 1) = (i1 : Int) := by rw [IntKind.wrap_i64]; have := HML.out; have := HN.out; have := HLT.out; omega
            have hi1n : i1 < n := by have := HLT.out; omega
            have hi1I : (i1 : Int) < (n : Int) := by omega
            have hi1l : i1 < l.length := by rw [← HN.out]; exact hi1n
            obtain ⟨u, hu⟩ : ∃ u, u = l[i1] := ⟨_, rfl⟩
            have HU : Hid (∀ W : World, Below w12.heap.size w12 W → ∀ j, j < 12 → W.cell? ⟨x, ox + i1 * 12 + j, none⟩ = u.cs[j]?) := hid fun W hb j hj => by
              rw [hu]
              exact ((WB.trans (hb.mono WB.size)).cell (p := ⟨x, ox + i1 * 12 + j, none⟩) HXL7.out).trans (HXC.out i1 hi1l j hj)
            have HXL : Hid (x < w12.heap.size) := hid (Nat.lt_of_lt_of_le HXL7.out WB.size)
            have hu12 : ∀ j, j < 12 → w12.cell? ⟨x, ox + i1 * 12 + j, none⟩ = u.cs[j]? := HU.out w12 (Below.refl _ _)
            have hxl : x < w12.heap.size := HXL.out
            have hb6 := HB6.out
            have HWw12 : Hid (Below w12.heap.size w12 w12) := hid (Below.refl _ _)
            have mixed := mixedT
            clear hu hi1 hi1n hi1l hi0
            obtain ⟨cv, hcv⟩ : ∃ cv, cv = cmpV u v := ⟨_, rfl⟩
            obtain ⟨b1, hb1⟩ : ∃ b1, b1 = decide (ltV u v) := ⟨_, rfl⟩
            obtain ⟨b2, hb2⟩ : ∃ b2, b2 = decide (ltV v u) := ⟨_, rfl⟩
            have HCV2 := hid hcv
            have HD1 := hid hb1
            have HD2 := hid hb2
            have HCM : Hid ((if b2 = true then (1 : Int) else if b1 = true then -1 else 0) = cv ∧ cmpV v u = -cv ∧ IntKind.i64.wrap (-cv) = -cv) := hid (by rw [hb1, hb2, hcv]; exact cmpV_both u v)
            clear hcv hb1 hb2
            have y0 := fun n os => cell_grown (a := ⟨x, ox + i1 * 12, none⟩) hxl (hu12 0 (by omega) : w12.cell? _ = some (.int .i64 u.kind)) n os
            have y1 := fun n os => cell_grown (a := ⟨x, ox + i1 * 12 + 1, none⟩) hxl (hu12 1 (by omega) : w12.cell? _ = some (.int .i64 u.time)) n os
            have y2 := fun n os => cell_grown (a := ⟨x, ox + i1 * 12 + 2, none⟩) hxl (hu12 2 (by omega) : w12.cell? _ = some (.int .i64 u.txn)) n os
            have y3 := fun n os => cell_grown (a := ⟨x, ox + i1 * 12 + 3, none⟩) hxl (hu12 3 (by omega) : w12.cell? _ = some (.int .i64 u.op)) n os
            have y4 := fun n os => cell_grown (a := ⟨x, ox + i1 * 12 + 4, none⟩) hxl (hu12 4 (by omega) : w12.cell? _ = some (.int .i64 u.wit)) n os
            have y5 := fun n os => cell_grown (a := ⟨x, ox + i1 * 12 + 5, none⟩) hxl (hu12 5 (by omega) : w12.cell? _ = some (.string u.key)) n os
            have y6 := fun n os => cell_grown (a := ⟨x, ox + i1 * 12 + 6, none⟩) hxl (hu12 6 (by omega) : w12.cell? _ = some (.bool u.want)) n os
            have y7 := fun n os => cell_grown (a := ⟨x, ox + i1 * 12 + 7, none⟩) hxl (hu12 7 (by omega) : w12.cell? _ = some (.string u.exp)) n os
            have y8 := fun n os => cell_grown (a := ⟨x, ox + i1 * 12 + 8, none⟩) hxl (hu12 8 (by omega) : w12.cell? _ = some (.bool u.got)) n os
            have y9 := fun n os => cell_grown (a := ⟨x, ox + i1 * 12 + 9, none⟩) hxl (hu12 9 (by omega) : w12.cell? _ = some (.string u.obs)) n os
            have y10 := fun n os => cell_grown (a := ⟨x, ox + i1 * 12 + 10, none⟩) hxl (hu12 10 (by omega) : w12.cell? _ = some (.int .i64 u.frm)) n os
            have y11 := fun n os => cell_grown (a := ⟨x, ox + i1 * 12 + 11, none⟩) hxl (hu12 11 (by omega) : w12.cell? _ = some (.int .i64 u.to)) n os
            have z0 := fun n os => cell_grown (a := ⟨t6, 0, none⟩) (blk_lt hb6) (((blk_cell hb6 0).trans rfl) : w12.cell? _ = some (.int .i64 v.kind)) n os
            have z1 := fun n os => cell_grown (a := ⟨t6, 1, none⟩) (blk_lt hb6) (((blk_cell hb6 1).trans rfl) : w12.cell? _ = some (.int .i64 v.time)) n os
            have z2 := fun n os => cell_grown (a := ⟨t6, 2, none⟩) (blk_lt hb6) (((blk_cell hb6 2).trans rfl) : w12.cell? _ = some (.int .i64 v.txn)) n os
            have z3 := fun n os => cell_grown (a := ⟨t6, 3, none⟩) (blk_lt hb6) (((blk_cell hb6 3).trans rfl) : w12.cell? _ = some (.int .i64 v.op)) n os
            have z4 := fun n os => cell_grown (a := ⟨t6, 4, none⟩) (blk_lt hb6) (((blk_cell hb6 4).trans rfl) : w12.cell? _ = some (.int .i64 v.wit)) n os
            have z5 := fun n os => cell_grown (a := ⟨t6, 5, none⟩) (blk_lt hb6) (((blk_cell hb6 5).trans rfl) : w12.cell? _ = some (.string v.key)) n os
            have z6 := fun n os => cell_grown (a := ⟨t6, 6, none⟩) (blk_lt hb6) (((blk_cell hb6 6).trans rfl) : w12.cell? _ = some (.bool v.want)) n os
            have z7 := fun n os => cell_grown (a := ⟨t6, 7, none⟩) (blk_lt hb6) (((blk_cell hb6 7).trans rfl) : w12.cell? _ = some (.string v.exp)) n os
            have z8 := fun n os => cell_grown (a := ⟨t6, 8, none⟩) (blk_lt hb6) (((blk_cell hb6 8).trans rfl) : w12.cell? _ = some (.bool v.got)) n os
            have z9 := fun n os => cell_grown (a := ⟨t6, 9, none⟩) (blk_lt hb6) (((blk_cell hb6 9).trans rfl) : w12.cell? _ = some (.string v.obs)) n os
            have z10 := fun n os => cell_grown (a := ⟨t6, 10, none⟩) (blk_lt hb6) (((blk_cell hb6 10).trans rfl) : w12.cell? _ = some (.int .i64 v.frm)) n os
            have z11 := fun n os => cell_grown (a := ⟨t6, 11, none⟩) (blk_lt hb6) (((blk_cell hb6 11).trans rfl) : w12.cell? _ = some (.int .i64 v.to)) n os
            have hc : ∀ W : World, Calls Try.prog 21 #[u.agg, v.agg] W fun e w' => e = .returned (.bool b1) ∧ Laid W w' := fun W => by rw [HD1.out]; exact before_any u v W
            have HC := hid hc
            clear hc hu12
            go_upto_region 18 with fail
            go_quiet_grown (first | (go_at_call 21; refine Calls.grown_of (HC.out _)))
            have HL : Hid (Below w12.heap.size w12 (Go.Sort.grow (w12.drewN nq) osq)) := hid (Laid.below ⟨nq, osq, rfl⟩)
            clear HC y0 y1 y2 y3 y4 y5 y6 y7 y8 y9 y10 y11 z0 z1 z2 z3 z4 z5 z6 z7 z8 z9 z10 z11
            generalize Go.Sort.grow (w12.drewN nq) osq = w13 at HL ⊢
            have hu12 : ∀ j, j < 12 → w13.cell? ⟨x, ox + i1 * 12 + j, none⟩ = u.cs[j]? := fun j hj => (HL.out.cell (p := ⟨x, ox + i1 * 12 + j, none⟩) (Nat.lt_of_lt_of_le HXL.out (HWw12.out).size)).trans (HU.out w12 HWw12.out j hj)
            have hxl : x < w13.heap.size := Nat.lt_of_lt_of_le (Nat.lt_of_lt_of_le HXL.out HWw12.out.size) HL.out.size
            have hb6 := (HL.out.block t6 (blk_lt HB6.out)).trans HB6.out
            have WB := WB.trans (HL.out.mono WB.size)
            have WT := (HL.out.block t4 (blk_lt WT)).trans WT
            clear HB6
            have HB6 := hid hb6
            have HWw13 : Hid (Below w12.heap.size w12 w13) := hid (HWw12.out.trans (HL.out.mono HWw12.out.size))
            clear HL
            go_upto_if 65 with fail
            go_cut [8] from 36 to 94 (fun s8 wx => s8 = .int .i64 (if b1 = true then -1 else 0) ∧ wx = w13)
            case first =>
              cases b1 with
              | true =>
                go_wp2_with fail
                go_meet
                case rel => exact ⟨rfl, rfl⟩
              | false =>
                go_wp2_with fail
                go_meet
                case rel => exact ⟨rfl, rfl⟩
            case rest =>
              obtain ⟨e8, ewc⟩ := hcut
              subst e8
              rw [ewc]
              clear ewc
              obtain ⟨e9, he9⟩ : ∃ e9, (if b1 = true then (-1 : Int) else 0) = e9 := ⟨_, rfl⟩
              rw [he9]
              have HE9 := hid he9
              clear he9
              have y0 := fun n os => cell_grown (a := ⟨x, ox + i1 * 12, none⟩) hxl (hu12 0 (by omega) : w13.cell? _ = some (.int .i64 u.kind)) n os
              have y1 := fun n os => cell_grown (a := ⟨x, ox + i1 * 12 + 1, none⟩) hxl (hu12 1 (by omega) : w13.cell? _ = some (.int .i64 u.time)) n os
              have y2 := fun n os => cell_grown (a := ⟨x, ox + i1 * 12 + 2, none⟩) hxl (hu12 2 (by omega) : w13.cell? _ = some (.int .i64 u.txn)) n os
              have y3 := fun n os => cell_grown (a := ⟨x, ox + i1 * 12 + 3, none⟩) hxl (hu12 3 (by omega) : w13.cell? _ = some (.int .i64 u.op)) n os
              have y4 := fun n os => cell_grown (a := ⟨x, ox + i1 * 12 + 4, none⟩) hxl (hu12 4 (by omega) : w13.cell? _ = some (.int .i64 u.wit)) n os
              have y5 := fun n os => cell_grown (a := ⟨x, ox + i1 * 12 + 5, none⟩) hxl (hu12 5 (by omega) : w13.cell? _ = some (.string u.key)) n os
              have y6 := fun n os => cell_grown (a := ⟨x, ox + i1 * 12 + 6, none⟩) hxl (hu12 6 (by omega) : w13.cell? _ = some (.bool u.want)) n os
              have y7 := fun n os => cell_grown (a := ⟨x, ox + i1 * 12 + 7, none⟩) hxl (hu12 7 (by omega) : w13.cell? _ = some (.string u.exp)) n os
              have y8 := fun n os => cell_grown (a := ⟨x, ox + i1 * 12 + 8, none⟩) hxl (hu12 8 (by omega) : w13.cell? _ = some (.bool u.got)) n os
              have y9 := fun n os => cell_grown (a := ⟨x, ox + i1 * 12 + 9, none⟩) hxl (hu12 9 (by omega) : w13.cell? _ = some (.string u.obs)) n os
              have y10 := fun n os => cell_grown (a := ⟨x, ox + i1 * 12 + 10, none⟩) hxl (hu12 10 (by omega) : w13.cell? _ = some (.int .i64 u.frm)) n os
              have y11 := fun n os => cell_grown (a := ⟨x, ox + i1 * 12 + 11, none⟩) hxl (hu12 11 (by omega) : w13.cell? _ = some (.int .i64 u.to)) n os
              have z0 := fun n os => cell_grown (a := ⟨t6, 0, none⟩) (blk_lt hb6) (((blk_cell hb6 0).trans rfl) : w13.cell? _ = some (.int .i64 v.kind)) n os
              have z1 := fun n os => cell_grown (a := ⟨t6, 1, none⟩) (blk_lt hb6) (((blk_cell hb6 1).trans rfl) : w13.cell? _ = some (.int .i64 v.time)) n os
              have z2 := fun n os => cell_grown (a := ⟨t6, 2, none⟩) (blk_lt hb6) (((blk_cell hb6 2).trans rfl) : w13.cell? _ = some (.int .i64 v.txn)) n os
              have z3 := fun n os => cell_grown (a := ⟨t6, 3, none⟩) (blk_lt hb6) (((blk_cell hb6 3).trans rfl) : w13.cell? _ = some (.int .i64 v.op)) n os
              have z4 := fun n os => cell_grown (a := ⟨t6, 4, none⟩) (blk_lt hb6) (((blk_cell hb6 4).trans rfl) : w13.cell? _ = some (.int .i64 v.wit)) n os
              have z5 := fun n os => cell_grown (a := ⟨t6, 5, none⟩) (blk_lt hb6) (((blk_cell hb6 5).trans rfl) : w13.cell? _ = some (.string v.key)) n os
              have z6 := fun n os => cell_grown (a := ⟨t6, 6, none⟩) (blk_lt hb6) (((blk_cell hb6 6).trans rfl) : w13.cell? _ = some (.bool v.want)) n os
              have z7 := fun n os => cell_grown (a := ⟨t6, 7, none⟩) (blk_lt hb6) (((blk_cell hb6 7).trans rfl) : w13.cell? _ = some (.string v.exp)) n os
              have z8 := fun n os => cell_grown (a := ⟨t6, 8, none⟩) (blk_lt hb6) (((blk_cell hb6 8).trans rfl) : w13.cell? _ = some (.bool v.got)) n os
              have z9 := fun n os => cell_grown (a := ⟨t6, 9, none⟩) (blk_lt hb6) (((blk_cell hb6 9).trans rfl) : w13.cell? _ = some (.string v.obs)) n os
              have z10 := fun n os => cell_grown (a := ⟨t6, 10, none⟩) (blk_lt hb6) (((blk_cell hb6 10).trans rfl) : w13.cell? _ = some (.int .i64 v.frm)) n os
              have z11 := fun n os => cell_grown (a := ⟨t6, 11, none⟩) (blk_lt hb6) (((blk_cell hb6 11).trans rfl) : w13.cell? _ = some (.int .i64 v.to)) n os
              have hc : ∀ W : World, Calls Try.prog 21 #[v.agg, u.agg] W fun e w' => e = .returned (.bool b2) ∧ Laid W w' := fun W => by rw [HD2.out]; exact before_any v u W
              have HC := hid hc
              clear hc hu12
              go_upto_region 20 with fail
              go_quiet_grown (first | (go_at_call 21; refine Calls.grown_of (HC.out _)))
              have HL : Hid (Below w13.heap.size w13 (Go.Sort.grow (w13.drewN nq) osq)) := hid (Laid.below ⟨nq, osq, rfl⟩)
              clear HC y0 y1 y2 y3 y4 y5 y6 y7 y8 y9 y10 y11 z0 z1 z2 z3 z4 z5 z6 z7 z8 z9 z10 z11
              generalize Go.Sort.grow (w13.drewN nq) osq = w14 at HL ⊢
              have hu12 : ∀ j, j < 12 → w14.cell? ⟨x, ox + i1 * 12 + j, none⟩ = u.cs[j]? := fun j hj => (HL.out.cell (p := ⟨x, ox + i1 * 12 + j, none⟩) (Nat.lt_of_lt_of_le HXL.out (HWw13.out).size)).trans (HU.out w13 HWw13.out j hj)
              have hxl : x < w14.heap.size := Nat.lt_of_lt_of_le (Nat.lt_of_lt_of_le HXL.out HWw13.out.size) HL.out.size
              have hb6 := (HL.out.block t6 (blk_lt HB6.out)).trans HB6.out
              have WB := WB.trans (HL.out.mono WB.size)
              have WT := (HL.out.block t4 (blk_lt WT)).trans WT
              clear HB6
              have HB6 := hid hb6
              have HWw14 : Hid (Below w12.heap.size w12 w14) := hid (HWw13.out.trans (HL.out.mono HWw13.out.size))
              clear HL
              go_upto_if 72 with fail
              go_cut [8] from 36 to 94 (fun s8 wx => s8 = .int .i64 cv ∧ wx = w14)
              case first =>
                have hcm := HCM.out.1
                rw [HE9.out] at hcm
                have HCM9 := hid hcm
                clear hcm
                cases b2 with
                | true =>
                  go_wp2_with fail
                  go_meet
                  case rel => exact ⟨congrArg (Value.int .i64) (show (1 : Int) = cv from HCM9.out), rfl⟩
                | false =>
                  go_wp2_with fail
                  go_meet
                  case rel => exact ⟨congrArg (Value.int .i64) (show e9 = cv from HCM9.out), rfl⟩
              case rest =>
                obtain ⟨e8, ewc⟩ := hcut
                subst e8
                rw [ewc]
                clear ewc
                have y0 := fun n os => cell_grown (a := ⟨x, ox + i1 * 12, none⟩) hxl (hu12 0 (by omega) : w14.cell? _ = some (.int .i64 u.kind)) n os
                have y1 := fun n os => cell_grown (a := ⟨x, ox + i1 * 12 + 1, none⟩) hxl (hu12 1 (by omega) : w14.cell? _ = some (.int .i64 u.time)) n os
                have y2 := fun n os => cell_grown (a := ⟨x, ox + i1 * 12 + 2, none⟩) hxl (hu12 2 (by omega) : w14.cell? _ = some (.int .i64 u.txn)) n os
                have y3 := fun n os => cell_grown (a := ⟨x, ox + i1 * 12 + 3, none⟩) hxl (hu12 3 (by omega) : w14.cell? _ = some (.int .i64 u.op)) n os
                have y4 := fun n os => cell_grown (a := ⟨x, ox + i1 * 12 + 4, none⟩) hxl (hu12 4 (by omega) : w14.cell? _ = some (.int .i64 u.wit)) n os
                have y5 := fun n os => cell_grown (a := ⟨x, ox + i1 * 12 + 5, none⟩) hxl (hu12 5 (by omega) : w14.cell? _ = some (.string u.key)) n os
                have y6 := fun n os => cell_grown (a := ⟨x, ox + i1 * 12 + 6, none⟩) hxl (hu12 6 (by omega) : w14.cell? _ = some (.bool u.want)) n os
                have y7 := fun n os => cell_grown (a := ⟨x, ox + i1 * 12 + 7, none⟩) hxl (hu12 7 (by omega) : w14.cell? _ = some (.string u.exp)) n os
                have y8 := fun n os => cell_grown (a := ⟨x, ox + i1 * 12 + 8, none⟩) hxl (hu12 8 (by omega) : w14.cell? _ = some (.bool u.got)) n os
                have y9 := fun n os => cell_grown (a := ⟨x, ox + i1 * 12 + 9, none⟩) hxl (hu12 9 (by omega) : w14.cell? _ = some (.string u.obs)) n os
                have y10 := fun n os => cell_grown (a := ⟨x, ox + i1 * 12 + 10, none⟩) hxl (hu12 10 (by omega) : w14.cell? _ = some (.int .i64 u.frm)) n os
                have y11 := fun n os => cell_grown (a := ⟨x, ox + i1 * 12 + 11, none⟩) hxl (hu12 11 (by omega) : w14.cell? _ = some (.int .i64 u.to)) n os
                have z0 := fun n os => cell_grown (a := ⟨t6, 0, none⟩) (blk_lt hb6) (((blk_cell hb6 0).trans rfl) : w14.cell? _ = some (.int .i64 v.kind)) n os
                have z1 := fun n os => cell_grown (a := ⟨t6, 1, none⟩) (blk_lt hb6) (((blk_cell hb6 1).trans rfl) : w14.cell? _ = some (.int .i64 v.time)) n os
                have z2 := fun n os => cell_grown (a := ⟨t6, 2, none⟩) (blk_lt hb6) (((blk_cell hb6 2).trans rfl) : w14.cell? _ = some (.int .i64 v.txn)) n os
                have z3 := fun n os => cell_grown (a := ⟨t6, 3, none⟩) (blk_lt hb6) (((blk_cell hb6 3).trans rfl) : w14.cell? _ = some (.int .i64 v.op)) n os
                have z4 := fun n os => cell_grown (a := ⟨t6, 4, none⟩) (blk_lt hb6) (((blk_cell hb6 4).trans rfl) : w14.cell? _ = some (.int .i64 v.wit)) n os
                have z5 := fun n os => cell_grown (a := ⟨t6, 5, none⟩) (blk_lt hb6) (((blk_cell hb6 5).trans rfl) : w14.cell? _ = some (.string v.key)) n os
                have z6 := fun n os => cell_grown (a := ⟨t6, 6, none⟩) (blk_lt hb6) (((blk_cell hb6 6).trans rfl) : w14.cell? _ = some (.bool v.want)) n os
                have z7 := fun n os => cell_grown (a := ⟨t6, 7, none⟩) (blk_lt hb6) (((blk_cell hb6 7).trans rfl) : w14.cell? _ = some (.string v.exp)) n os
                have z8 := fun n os => cell_grown (a := ⟨t6, 8, none⟩) (blk_lt hb6) (((blk_cell hb6 8).trans rfl) : w14.cell? _ = some (.bool v.got)) n os
                have z9 := fun n os => cell_grown (a := ⟨t6, 9, none⟩) (blk_lt hb6) (((blk_cell hb6 9).trans rfl) : w14.cell? _ = some (.string v.obs)) n os
                have z10 := fun n os => cell_grown (a := ⟨t6, 10, none⟩) (blk_lt hb6) (((blk_cell hb6 10).trans rfl) : w14.cell? _ = some (.int .i64 v.frm)) n os
                have z11 := fun n os => cell_grown (a := ⟨t6, 11, none⟩) (blk_lt hb6) (((blk_cell hb6 11).trans rfl) : w14.cell? _ = some (.int .i64 v.to)) n os
                have wneg : IntKind.i64.wrap (-cv) = -cv := HCM.out.2.2
                have hc1 : ∀ W : World, Calls Try.prog 17 #[u.agg, v.agg] W fun e w' => e = .returned (.int .i64 cv) ∧ Laid W w' := fun W => by rw [HCV2.out]; exact compare_any u v W
                have hc2 : ∀ W : World, Calls Try.prog 17 #[v.agg, u.agg] W fun e w' => e = .returned (.int .i64 (-cv)) ∧ Laid W w' := fun W => by rw [← HCM.out.2.1]; exact compare_any v u W
                have HC1 := hid hc1
                have HC2 := hid hc2
                clear hc1 hc2 hu12 hb6 hxl
                go_upto_region 22 with fail
                go_quiet_grown (first | (go_at_call 17; with_reducible refine Calls.grown_of (HC1.out _)) | (go_at_call 17; with_reducible refine Calls.grown_of (HC2.out _)))
                have HL : Hid (Below w14.heap.size w14 (Go.Sort.grow (w14.drewN nq) osq)) := hid (Laid.below ⟨nq, osq, rfl⟩)
                clear HC1 HC2 y0 y1 y2 y3 y4 y5 y6 y7 y8 y9 y10 y11 z0 z1 z2 z3 z4 z5 z6 z7 z8 z9 z10 z11
                generalize Go.Sort.grow (w14.drewN nq) osq = w15 at HL ⊢
                have WB := WB.trans (HL.out.mono WB.size)
                have WT := (HL.out.block t4 (blk_lt WT)).trans WT
                have WB := hid WB
                have WT := hid WT
                clear HL
                go_wp2_with fail
                go_roundg (n - (i + 1))
                case measure => have := HLT.out; omega
                case rel => exact ⟨i + 1, HLT.out, rfl, by go_num, hid ⟨WB.out, WT.out⟩⟩
    · have hie : ¬ (i : Int) < (n : Int) := by omega
      have hin : i = n := by omega
      have ht := HR.out.2
      rw [hin, List.take_of_length_le (by rw [← HN.out]; exact Nat.le_refl _)] at ht
      have rg0 : wr.rangeAt t4 0 [.int .i64 (tl l 0), .int .i64 (tl l 1), .int .i64 (tl l 2), .int .i64 (tl l 3), .int .i64 (tl l 4), .int .i64 (tl l 5), .int .i64 (tl l 6), .int .i64 (tl l 7), .int .i64 (tl l 8), .int .i64 (tl l 9), .int .i64 (tl l 10)] := tally_range ht
      have hu46 := Try.underlying46
      have hi46 : (Try.prog.info? 46).map (·.size) = some ([.int .i64 (tl l 0), .int .i64 (tl l 1), .int .i64 (tl l 2), .int .i64 (tl l 3), .int .i64 (tl l 4), .int .i64 (tl l 5), .int .i64 (tl l 6), .int .i64 (tl l 7), .int .i64 (tl l 8), .int .i64 (tl l 9), .int .i64 (tl l 10)] : List Value).length := by show _ = some 11; kernel_rfl
      have HT9 := hid ht
      have htl := tally_any (some ⟨g, 0, none⟩) c2 l wr.drew (HV7.out.below HR.out.1.drew) (by have := HML.out; omega)
      rw [← HN.out] at htl
      have HTL : Hid (Calls Try.prog 22 #[.slice (some ⟨g, 0, none⟩) n c2] wr.drew fun e w' => e = .returned (.agg #[.int .i64 (tl l 0), .int .i64 (tl l 1), .int .i64 (tl l 2), .int .i64 (tl l 3), .int .i64 (tl l 4), .int .i64 (tl l 5), .int .i64 (tl l 6), .int .i64 (tl l 7), .int .i64 (tl l 8), .int .i64 (tl l 9), .int .i64 (tl l 10)]) ∧ Below wr.drew.heap.size wr.drew w') := hid htl
      have hE : ∀ W : World, (binOp .eql 46 (.agg #[.int .i64 (tl l 0), .int .i64 (tl l 1), .int .i64 (tl l 2), .int .i64 (tl l 3), .int .i64 (tl l 4), .int .i64 (tl l 5), .int .i64 (tl l 6), .int .i64 (tl l 7), .int .i64 (tl l 8), .int .i64 (tl l 9), .int .i64 (tl l 10)]) (.agg #[.int .i64 (tl l 0), .int .i64 (tl l 1), .int .i64 (tl l 2), .int .i64 (tl l 3), .int .i64 (tl l 4), .int .i64 (tl l 5), .int .i64 (tl l 6), .int .i64 (tl l 7), .int .i64 (tl l 8), .int .i64 (tl l 9), .int .i64 (tl l 10)])).run Try.prog W = .ok (.bool true) W := fun W => eqT_run l W
      have HB9 := hid HR.out.1
      clear ht htl hin hi hlt HR
      go_upto_region 25 with fail
      go_region_held3 (fun W : World => W.rangeAt t4 0 [.int .i64 (tl l 0), .int .i64 (tl l 1), .int .i64 (tl l 2), .int .i64 (tl l 3), .int .i64 (tl l 4), .int .i64 (tl l 5), .int .i64 (tl l 6), .int .i64 (tl l 7), .int .i64 (tl l 8), .int .i64 (tl l 9), .int .i64 (tl l 10)]) (go_keep) (first | (go_at_call 22; refine HTL.out.mono ?_; rintro e w20 ⟨rfl, hb20⟩; have ht20 := (hb20.block t4 (blk_lt HT9.out)).trans HT9.out; have rgw20 : w20.rangeAt t4 0 [.int .i64 (tl l 0), .int .i64 (tl l 1), .int .i64 (tl l 2), .int .i64 (tl l 3), .int .i64 (tl l 4), .int .i64 (tl l 5), .int .i64 (tl l 6), .int .i64 (tl l 7), .int .i64 (tl l 8), .int .i64 (tl l 9), .int .i64 (tl l 10)] := tally_range ht20; have HT20 := hid ht20; have HB20 := hid (HB9.out.trans (((Below.refl _ wr).drew.trans hb20).mono HB9.out.size)); have hs2 := same_eq (some ⟨g, 0, none⟩) a c2 cap l w20 (HV7.out.below HB20.out) (HIN.out.below (HB7.out.trans (HB20.out.mono HB7.out.size))) (by have := HML.out; omega); rw [← HN.out] at hs2; have HS2 := hid hs2; clear hb20 ht20 hs2 HTL) | (go_at_call 13; refine HS2.out.mono ?_; rintro e w21 ⟨rfl, hb21⟩; have ht21 := (hb21.block t4 (blk_lt HT20.out)).trans HT20.out; have rgw21 : w21.rangeAt t4 0 [.int .i64 (tl l 0), .int .i64 (tl l 1), .int .i64 (tl l 2), .int .i64 (tl l 3), .int .i64 (tl l 4), .int .i64 (tl l 5), .int .i64 (tl l 6), .int .i64 (tl l 7), .int .i64 (tl l 8), .int .i64 (tl l 9), .int .i64 (tl l 10)] := tally_range ht21; have HB21 := hid (HB20.out.trans (hb21.mono HB20.out.size)); clear hb21 ht21 HS2))
      all_goals go_wp2_with fail
      all_goals go_ret
      all_goals exact ⟨by simp, HB7.out.trans (HB21.out.mono HB7.out.size)⟩
end Go.Proofs.Ytgimpkbknaopcaa
