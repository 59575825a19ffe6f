/- The walk of StreamApart. No statement is proved here. -/
import Derived.Test.YtkhejipcclpknaaUH
import Derived.Deep.LoopGhost
set_option linter.unusedVariables false
set_option linter.unusedSimpArgs false
namespace Go.Proofs.Ytkhejipcclpknaa
open Go.RowKit

set_option maxHeartbeats 8000000 in
set_option maxRecDepth 100000 in
theorem apart_walk (a : Option Addr) (cap : Nat) (l : List Int) (a2 : Option Addr) (len cap2 : Nat) (xs : Nat → Int) (w : World) (hin : BytesIn w a l) (hcap : l.length ≤ cap) (hca : cap ≠ 0 → ∃ b off, a = some ⟨b, off, none⟩) (hml : l.length ≤ maxLen) (hin2 : IntsIn w a2 len xs) :
    Calls Try.prog 4 #[.slice a l.length cap, .slice a2 len cap2] w fun e w' => e = .returned (.bool true) ∧ Below w.heap.size w w' := by
  have HA := hid (anchor_any w)
  obtain ⟨L, hL⟩ : ∃ L, L = l.length := ⟨_, rfl⟩
  rw [← hL] at hml hcap ⊢
  have HL := hid hL
  have HIN := hid hin
  have HCA := hid hca
  have HIN2 := hid hin2
  have HCP := hid hcap
  clear hL hin hca hin2 hcap
  by_cases hbig : 4194304 < L
  · have hbigI : (4194304 : Int) < (L : Int) := by omega
    clear hml
    go_enter Try.func4, Try.ntmps4
    go_wp2_with (go_at_call 10; refine HA.out.mono ?_; rintro e w1 ⟨rfl, hb1⟩)
    go_ret
    exact ⟨rfl, hb1⟩
  have hbigI : ¬ (4194304 : Int) < (L : Int) := by omega
  have HBG := hid (show L ≤ 4194304 by omega)
  clear hml
  go_enter Try.func4, Try.ntmps4
  go_upto_region 5 with (go_at_call 10; refine HA.out.mono ?_; rintro e w1 ⟨rfl, hb1⟩)
  clear hbig hbigI
  have HB1 := hid hb1
  have hal := (Below.refl _ w1).alloc (Nat.le_refl _) (.cells #[] 5)
  obtain ⟨g, ic, w2, hrun, hown, hgr, hg⟩ := app_onto (heap_alloc_new w1 (.cells #[] 5)) 22 L cap HL.out.symm ((HIN.out.below hb1).below hal) (by have := HBG.out; omega) (fun _ _ _ _ => trivial)
  have HB12 := hid (hal.grown hgr hal.size (fun k e => by cases e; exact Nat.le_refl _))
  have HB2 := hid (HB1.out.trans (HB12.out.mono HB1.out.size))
  have hnew := new_plain (w := w2) (a := some ⟨g, 0, none⟩) (l := l) 16 0 (by omega) (by omega) (by omega) (by rw [← HL.out]; exact HBG.out) (bytes_own (by rw [HL.out] at hown; exact hown)) ic
  rw [← HL.out] at hnew
  have HNEW := hid hnew
  clear hb1 hal hown hgr hg hnew HA
  go_upto_region 8 with (first | (at_builtin; refine wpList_append_run _ rfl (.tmp 21) (.tmp 22) 22 22 rfl _ _ rfl rfl hrun ?_) | (go_at_call 11; refine HNEW.out.mono ?_; rintro e w3 ⟨d, rfl, hd3, hb3, hn3⟩))
  clear hrun
  have HD3 := hid hd3
  have HB3 := hid (HB2.out.trans (hb3.mono HB2.out.size))
  have HN3 := hid (fun k hk => Nat.le_trans HB2.out.size (hn3 k hk))
  have HI3 := hid (input_on hd3 ⟨rfl, rfl⟩)
  clear hd3 hb3 hn3 HNEW
  go_upto_region 9 with (first | (go_at_call 18; refine HI3.out.mono ?_; rintro e w4 ⟨p0, rfl, hr4, hp4, hb4⟩; have HR4 := hid hr4; have HB4 := hid hb4; have HP4 := hid hp4; have HI4 := hid (input_on hr4.mem.dv ⟨rfl, rfl⟩); clear hr4 hb4 hp4 HI3) | (go_at_call 18; refine HI4.out.mono ?_; rintro e w5 ⟨p1, rfl, hr5, hp5, hb5⟩))
  have HR5 := hid hr5
  have HB5 := hid hb5
  have HP5 := hid hp5
  clear hr5 hb5 hp5 HI4
  have hal := (Below.refl _ w5).alloc (Nat.le_refl _) (.cells #[.pointer (some ⟨p0, 0, none⟩), .pointer (some ⟨p1, 0, none⟩)] 42)
  have X6 := heap_alloc_new w5 (.cells #[.pointer (some ⟨p0, 0, none⟩), .pointer (some ⟨p1, 0, none⟩)] 42)
  obtain ⟨w6, hw6⟩ : ∃ w6, w5.alloc (.cells #[.pointer (some ⟨p0, 0, none⟩), .pointer (some ⟨p1, 0, none⟩)] 42) = w6 := ⟨_, rfl⟩
  obtain ⟨b7, hb7⟩ : ∃ b7, b7 = w5.heap.size := ⟨_, rfl⟩
  rw [hw6] at hal X6
  rw [← hb7] at X6
  rw [hw6, ← hb7]
  have c0 : w6.cell? ⟨b7, 0, none⟩ = some (.pointer (some ⟨p0, 0, none⟩)) := (blk_cell X6 0).trans rfl
  have c1 : w6.cell? ⟨b7, 1, none⟩ = some (.pointer (some ⟨p1, 0, none⟩)) := (blk_cell X6 1).trans rfl
  have HX6 := hid X6
  have HAL6 := hid hal
  have HB7 := hid hb7
  clear hal X6 hw6 hb7
  go_upto_region 12 with fail
  clear c0 c1
  have hal := (Below.refl _ w6).alloc (Nat.le_refl _) (.cells #[.int .i64 0, .int .i64 0] 51)
  have X7 := heap_alloc_new w6 (.cells #[.int .i64 0, .int .i64 0] 51)
  obtain ⟨w7, hw7⟩ : ∃ w7, w6.alloc (.cells #[.int .i64 0, .int .i64 0] 51) = w7 := ⟨_, rfl⟩
  obtain ⟨t8, ht8⟩ : ∃ t8, t8 = w6.heap.size := ⟨_, rfl⟩
  rw [hw7] at hal X7
  rw [← ht8] at X7
  rw [hw7, ← ht8]
  have H47 : Below w4.heap.size w4 w7 := HB5.out.trans ((HAL6.out.trans (hal.mono HAL6.out.size)).mono HB5.out.size)
  have H57 : Below w5.heap.size w5 w7 := HAL6.out.trans (hal.mono HAL6.out.size)
  have HX7 := hid X7
  have HW7 := hid (HB3.out.trans ((HB4.out.trans (H47.mono HB4.out.size)).mono HB3.out.size))
  have HXB := hid ((hal.block b7 (blk_lt HX6.out)).trans HX6.out)
  have HDUO : Hid (Duo w7 d ⟨16, 0, l, List.replicate (16 * 0) 0, [], fun _ _ => 0, 0, 0, 0, 0, false⟩ l w.heap.size (fun k => if k = 0 then p0 else p1) (fun _ => none) (fun _ => ⟨16, none, l.length, 0, -1, [], 0⟩)) := hid (by
    have k0 := HR4.out.below H47
    have k1 := HR5.out.below H57
    have q0 := HP4.out
    have q1 := HP5.out
    have z0 := HR4.out.mem.rd.lt p0 (.inl rfl)
    have z3 := HB3.out.size
    have z4 := HB4.out.size
    refine ⟨fun k hk => ?_, fun _ _ => rfl, fun i j hi hj hij b hb hb' => ?_, fun k hk b hb => ?_, rfl, rfl⟩
    · by_cases h0 : k = 0
      · rw [if_pos h0]; exact k0
      · rw [if_neg h0]; exact k1
    · rcases hb with e | e | e
      · rcases hb' with e' | e' | e'
        · split at e <;> split at e' <;> omega
        · cases e'
        · cases e'
      · cases e
      · cases e
    · rcases hb with e | e | e
      · split at e <;> omega
      · cases e
      · cases e)
  have HLT : Hid (b7 < t8 ∧ (∀ k, d.S k → k < b7) ∧ p0 < b7 ∧ p1 < b7) := hid (by
    have q1 := HR5.out.mem.rd.lt p1 (.inl rfl)
    have z0 := HR4.out.mem.rd.lt p0 (.inl rfl)
    have z5 := HB5.out.size
    have z6 := HAL6.out.size
    have zb := HB7.out
    have zx := blk_lt HX6.out
    refine ⟨by omega, fun k hk => ?_, by omega, by omega⟩
    have := HR5.out.mem.dv.lt k hk
    omega)
  clear hal X7 hw7 ht8 H47 H57
  obtain ⟨p, hp⟩ : ∃ p : Nat → Nat, p = (fun k => if k = 0 then p0 else p1) := ⟨_, rfl⟩
  rw [← hp] at HDUO
  have HP : Hid (p 0 = p0 ∧ p 1 = p1) := hid (by rw [hp]; exact ⟨rfl, rfl⟩)
  clear hp HR4 HR5 HP4 HP5 HB4 HB5
  go_wp2_with fail
  go_loopg [50] len (fun gh s50 wr => ∃ (i : Nat) (D : Dv) (o : Nat → Option Nat) (R : Nat → Rd), len - i = gh ∧ i ≤ len ∧ s50 = .int .i64 (i : Int) ∧ Hid (Duo wr d D l w.heap.size p o R) ∧ Hid (wr.heap[b7]? = some (.cells #[.pointer (some ⟨p0, 0, none⟩), .pointer (some ⟨p1, 0, none⟩)] 42 (0, 0))) ∧ Hid (wr.heap[t8]? = some (.cells #[.int .i64 ((R 0).pos : Int), .int .i64 ((R 1).pos : Int)] 51 (0, 0))) ∧ Hid (Below w.heap.size w wr) ∧ Hid (w7.heap.size ≤ wr.heap.size) ∧ Hid (∀ k, k < 2 → ∀ b, o k = some b → w7.heap.size ≤ b))
  case atStart => exact ⟨0, _, _, _, rfl, Nat.zero_le _, rfl, HDUO, HXB, HX7, HW7, hid (Nat.le_refl _), hid (fun k _ b hb => by cases hb)⟩
  case round =>
    clear HDUO HXB
    obtain ⟨i, D, o, R, rfl, hi, rfl, HD, HX, HT, HW, HS, HO⟩ := hrel
    have hi63 := HIN2.out.1
    by_cases hil : i < len
    · obtain ⟨bq, off, rfl, hbq, hcq, hx0, hx1⟩ := HIN2.out.2 i hil
      have cx := (HW.out.cell (p := ⟨bq, off + i, none⟩) hbq).trans hcq
      have hilI : (i : Int) < (len : Int) := by omega
      have hi1 : (i : Int) + 1 ≤ 9223372036854775807 := by omega
      have HIL := hid hil
      obtain ⟨x, hx⟩ : ∃ x, x = xs i := ⟨_, rfl⟩
      rw [← hx] at cx hx0 hx1
      clear hbq hcq hi hx hil
      by_cases hneg : x < 0
      · clear hx0 hx1
        go_wp2_with fail
        go_roundg (len - (i + 1))
        case measure => have := HIL.out; omega
        case rel => exact ⟨i + 1, D, o, R, rfl, HIL.out, by go_num, HD, HX, HT, HW, HS, HO⟩
      by_cases hgt : 65536 < x
      · clear hx0 hx1
        go_wp2_with fail
        go_roundg (len - (i + 1))
        case measure => have := HIL.out; omega
        case rel => exact ⟨i + 1, D, o, R, rfl, HIL.out, by go_num, HD, HX, HT, HW, HS, HO⟩
      obtain ⟨m, rfl⟩ := Int.eq_ofNat_of_zero_le (show 0 ≤ x by omega)
      have hm : m ≤ 65536 := by omega
      obtain ⟨k, hk⟩ : ∃ k, k = i % 2 := ⟨_, rfl⟩
      have hk2 : k < 2 := by rw [hk]; exact Nat.mod_lt _ (by omega)
      have hmod : (i : Int).tmod 2 = (k : Int) := by rw [hk]; exact Int.ofNat_tmod i 2
      have hwk : IntKind.i64.wrap (k : Int) = (k : Int) := wrap_id (by omega) (by omega)
      have hkI : (k : Int) < 2 := by omega
      have HK2 := hid hk2
      have HM := hid hm
      have cp : wr.cell? ⟨b7, k, none⟩ = some (.pointer (some ⟨p k, 0, none⟩)) := by
        rw [blk_cell HX.out k]
        rcases (show k = 0 ∨ k = 1 by omega) with h | h
        · subst h; rw [HP.out.1]; rfl
        · subst h; rw [HP.out.2]; rfl
      obtain ⟨ps, hps⟩ : ∃ ps, ps = (R k).pos := ⟨_, rfl⟩
      have HPS := hid hps
      have HRO := hid (read_on (HD.out.on k hk2) (HD.out.cok (by rw [← HL.out]; have := HBG.out; omega)) m hm)
      clear hx0 hx1 hk hk2 hm hps
      go_upto_region 18 with (go_at_call 19; refine HRO.out.mono ?_; rintro e w9 ⟨v, o9, R9, D9, rfl, hv9, hvn9, hr9, hst9, hps9, hsz9, hch9, hrs9⟩; obtain ⟨av, cv, hve⟩ := own_slc hv9; obtain ⟨n, hn⟩ : ∃ n, n = ((l.drop (R k).pos).take m).length := ⟨_, rfl⟩; rw [← hn] at hve; have HVE := hid hve; have HNN := hid hn; clear hn; subst hve)
      clear cx cp
      have hn := HNN.out
      rw [← HPS.out] at hv9 hn hps9 hrs9
      have hk2 := HK2.out
      have hposk := (HD.out.on k hk2).good.ok.pos
      have hszk := (HD.out.on k hk2).good.sz
      rw [← HPS.out, ← hszk, ← HL.out] at hposk
      have hnm : n = min m (L - ps) := by rw [hn, List.length_take, List.length_drop, HL.out]
      rw [← hszk, ← HL.out, ← hnm] at hps9
      have hb7s : ¬ (rS (p k) none (o k) b7 ∨ d.S b7) := fun hh => by
        have h1 := HLT.out
        have hp := HP.out
        rcases hh with (h | h | h) | h
        · rcases (show k = 0 ∨ k = 1 by omega) with e | e
          · subst e; omega
          · subst e; omega
        · cases h
        · have := HO.out k hk2 b7 h
          have := blk_lt HX7.out
          omega
        · have := h1.2.1 b7 h
          omega
      have ht8s : ¬ (rS (p k) none (o k) t8 ∨ d.S t8) := fun hh => by
        have h1 := HLT.out
        have hp := HP.out
        rcases hh with (h | h | h) | h
        · rcases (show k = 0 ∨ k = 1 by omega) with e | e
          · subst e; omega
          · subst e; omega
        · cases h
        · have := HO.out k hk2 t8 h
          have := blk_lt HX7.out
          omega
        · have := h1.2.1 t8 h
          omega
      have HX9 := hid ((hst9.up.block b7 (blk_lt HX.out) hb7s).trans HX.out)
      have HT9 := hid ((hst9.up.block t8 (blk_lt HT.out) ht8s).trans HT.out)
      have HW9 : Hid (Below w.heap.size w w9) := hid (HW.out.trans (hst9.up.below (B := w.heap.size) HW.out.size fun y hy => hy.elim (HD.out.nw k hk2 y) fun h => HN3.out y h))
      have HS9 := hid (Nat.le_trans HS.out hst9.up.size)
      obtain ⟨o', ho'⟩ : ∃ o' : Nat → Option Nat, o' = fun j => if j = k then o9 else o j := ⟨_, rfl⟩
      obtain ⟨R', hR'⟩ : ∃ R' : Nat → Rd, R' = fun j => if j = k then R9 else R j := ⟨_, rfl⟩
      have HD9 : Hid (Duo w9 d D9 l w.heap.size p o' R') := hid (by
        rw [ho', hR']
        exact HD.out.read HW.out.size hk2 hr9 hst9 hch9 (by rw [← HPS.out]; exact hrs9))
      have HO9 : Hid (∀ j, j < 2 → ∀ b, o' j = some b → w7.heap.size ≤ b) := hid fun j hj b hb => by
        rw [ho'] at hb
        by_cases hjk : j = k
        · simp only [hjk, if_true] at hb
          rcases hst9.h1 b hb with e | e
          · exact HO.out k hk2 b e
          · exact Nat.le_trans HS.out e
        · simp only [hjk, if_false] at hb
          exact HO.out j hj b hb
      obtain ⟨E, hE⟩ : ∃ E, E = ps + n := ⟨_, rfl⟩
      have HR1 : Hid ((E : Int) = ((R' k).pos : Int) ∧ ∀ j, j ≠ k → (R' j).pos = (R j).pos) := hid ⟨by rw [hR']; simp only [if_true]; omega, fun j hj => by rw [hR']; simp only [hj, if_false]⟩
      have HBV := hid (bytes_own hv9)
      have HNE := hid hn
      have hcl := HCP.out
      have hbg := HBG.out
      obtain ⟨Y, hY⟩ : ∃ Y, Y = L - ps := ⟨_, rfl⟩
      have hw1 : IntKind.i64.wrap ((L : Int) - (ps : Int)) = (Y : Int) := by
        rw [show (L : Int) - (ps : Int) = (Y : Int) by omega]
        exact wrap_id (by omega) (by omega)
      have hw2 : IntKind.i64.wrap ((ps : Int) + (n : Int)) = (E : Int) := by
        rw [show (ps : Int) + (n : Int) = (E : Int) by omega]
        exact wrap_id (by omega) (by omega)
      have hmin : (if Y < m then (Y : Int) else (m : Int)) = (n : Int) := by split <;> omega
      have hnY : ¬ (Y : Int) < (n : Int) := by omega
      have hp0 : (0 : Int) ≤ (ps : Int) := by omega
      have hpE : (ps : Int) ≤ (E : Int) := by omega
      have hEc : (E : Int) ≤ (cap : Int) := by omega
      have hEn : E - ps = n := by omega
      have ct : w9.cell? ⟨t8, k, none⟩ = some (.int .i64 (ps : Int)) := by
        rw [blk_cell HT9.out k, HPS.out]
        rcases (show k = 0 ∨ k = 1 by omega) with h | h
        · subst h; rfl
        · subst h; rfl
      have hkI : (k : Int) < 2 := by omega
      have HF := hid (show n ≤ L ∧ ps + n ≤ L by omega)
      have HTL : Hid (w.heap.size ≤ t8) := hid (by
        have := HLT.out.1
        have := HB3.out.size
        have hx := HB7.out
        have := HAL6.out.size
        have hd := HLT.out.2.2.1
        have := HD.out.nw 0 (by omega) (p 0) (.inl rfl)
        rw [HP.out.1] at this
        omega)
      have HLP := hid (And.intro hposk (And.intro hcl hEn))
      clear hv9 hvn9 hr9 hst9 hps9 hsz9 hch9 hrs9 hn hnm hb7s ht8s hk2 hposk hszk hcl hbg hY hE hR' ho' HRO HVE
      by_cases hcp : cap = ps
      · have hcp0 : cap - ps = 0 := by omega
        have hl0 : (l.drop ps) = [] := List.drop_eq_nil_of_le (by rw [← HL.out]; have := HLP.out; omega)
        have HL0 := hid hl0
        have hEp : E ≤ cap := by have := HF.out; have := HLP.out; omega
        have hpE2 : ps ≤ E := by omega
        have hcpT : (cap = ps) = True := eq_true hcp
        clear hl0 hcp
        cases a with
        | none =>
          have HBS : Hid (BytesIn w9.drew none ((l.drop ps).take m)) := hid (by rw [HL0.out]; intro h; exact absurd (List.take_nil) h)
          have hsm := same_any (w := w9.drew) (HBV.out.below (Below.refl _ w9).drew) HBS.out (by rw [← HNE.out]; have := HBG.out; have := HF.out; omega) (by rw [← HNE.out]; have := HBG.out; have := HF.out; omega) cv 0
          rw [← HNE.out, decide_eq_true (Eq.refl ((l.drop ps).take m))] at hsm
          have HSM := hid hsm
          clear hsm
          refine wp_region_still_lit (by kernel_rfl) (by kernel_rfl) ?_
          repeat still_step
          still_call (HSM.out)
          refine wpStill_held ?_
          iterate 15 (refine held_on (by kernel_rfl) (fun K hK => ?_); go_simp; refine hK _ ?_; clear hK K)
          refine held_nil ?_
          generalize hwd : ({ heap := w9.heap, tape := w9.tape, drawn := w9.drawn + 1, os := w9.os, output := w9.output } : World) = wd
          have hwd' : w9.drew = wd := hwd
          have hbd : Below w9.heap.size w9 wd := by rw [← hwd']; exact (Below.refl _ w9).drew
          have dt : wd.cell? ⟨t8, k, none⟩ = some (.int .i64 (ps : Int)) := by rw [← hwd']; exact ct
          have HTd : Hid (wd.heap[t8]? = some (.cells #[.int .i64 ((R 0).pos : Int), .int .i64 ((R 1).pos : Int)] 51 (0, 0))) := hid (by rw [← hwd']; exact HT9.out)
          have ft := blk_free HTd.out k
          have HDd := hid (HD9.out.below hbd)
          have HWd := hid (HW9.out.trans (hbd.mono HW9.out.size))
          have HXd := hid ((hbd.block b7 (blk_lt HX9.out)).trans HX9.out)
          have HSd := hid (Nat.le_trans HS9.out hbd.size)
          clear hwd hwd' hbd ct
          go_wp2_with fail
          have UP := hid ((Upd.refl (fun j => j = t8) wd).setCell (p := ⟨t8, k, none⟩) (fun _ => rfl) (.int .i64 (E : Int)))
          have hnt : ∀ j, j < 2 → ∀ y, rS (p j) none (o' j) y → y ≠ t8 := fun j hj y hy e => by
            have h1 := HLT.out
            have hp := HP.out
            rcases hy with h | h | h
            · have : p j = p0 ∨ p j = p1 := by
                rcases (show j = 0 ∨ j = 1 by omega) with h | h
                · subst h; exact .inl hp.1
                · subst h; exact .inr hp.2
              omega
            · cases h
            · have := HO9.out j hj y h
              have := blk_lt HX7.out
              omega
          have HDf : Hid (Duo (wd.setCell ⟨t8, k, none⟩ (.int .i64 (E : Int))) d D9 l w.heap.size p o' R') := hid ⟨fun j hj => ⟨(HDd.out.on j hj).mem.beside UP.out (fun y hy e => hy.elim (fun h => hnt j hj y h e) fun h => by have := HLT.out.2.1 y h; have := HLT.out.1; omega), (HDd.out.on j hj).good, (HDd.out.on j hj).fa, (HDd.out.on j hj).hh⟩, HDd.out.ch, HDd.out.ap, HDd.out.nw, HDd.out.cs, HDd.out.ci⟩
          have HTf : Hid ((wd.setCell ⟨t8, k, none⟩ (.int .i64 (E : Int))).heap[t8]? = some (.cells #[.int .i64 ((R' 0).pos : Int), .int .i64 ((R' 1).pos : Int)] 51 (0, 0))) := hid (by
            rw [heap_setCell_same wd t8 k _ _ _ HTd.out]
            have hk := HK2.out
            rcases (show k = 0 ∨ k = 1 by omega) with h | h
            · subst h
              rw [HR1.out.1, HR1.out.2 1 (by omega)]
              rfl
            · subst h
              rw [HR1.out.1, HR1.out.2 0 (by omega)]
              rfl)
          have HXf := hid ((UP.out.block b7 (blk_lt HXd.out) (fun e => by have := HLT.out.1; omega)).trans HXd.out)
          have HWf := hid (HWd.out.setCell (p := ⟨t8, k, none⟩) (by have := HTL.out; exact this) (.int .i64 (E : Int)))
          go_roundg (len - (i + 1))
          case measure => have := HIL.out; omega
          case rel => exact ⟨i + 1, D9, o', R', rfl, HIL.out, by go_num, HDf, HXf, HTf, HWf, hid (Nat.le_trans HSd.out UP.out.size), HO9⟩
        | some x =>
          have HBS : Hid (BytesIn w9.drew (some x) ((l.drop ps).take m)) := hid (by rw [HL0.out]; intro h; exact absurd (List.take_nil) h)
          have hsm := same_any (w := w9.drew) (HBV.out.below (Below.refl _ w9).drew) HBS.out (by rw [← HNE.out]; have := HBG.out; have := HF.out; omega) (by rw [← HNE.out]; have := HBG.out; have := HF.out; omega) cv 0
          rw [← HNE.out, decide_eq_true (Eq.refl ((l.drop ps).take m))] at hsm
          have HSM := hid hsm
          clear hsm
          refine wp_region_still_lit (by kernel_rfl) (by kernel_rfl) ?_
          repeat still_step
          still_call (HSM.out)
          refine wpStill_held ?_
          iterate 15 (refine held_on (by kernel_rfl) (fun K hK => ?_); go_simp; refine hK _ ?_; clear hK K)
          refine held_nil ?_
          generalize hwd : ({ heap := w9.heap, tape := w9.tape, drawn := w9.drawn + 1, os := w9.os, output := w9.output } : World) = wd
          have hwd' : w9.drew = wd := hwd
          have hbd : Below w9.heap.size w9 wd := by rw [← hwd']; exact (Below.refl _ w9).drew
          have dt : wd.cell? ⟨t8, k, none⟩ = some (.int .i64 (ps : Int)) := by rw [← hwd']; exact ct
          have HTd : Hid (wd.heap[t8]? = some (.cells #[.int .i64 ((R 0).pos : Int), .int .i64 ((R 1).pos : Int)] 51 (0, 0))) := hid (by rw [← hwd']; exact HT9.out)
          have ft := blk_free HTd.out k
          have HDd := hid (HD9.out.below hbd)
          have HWd := hid (HW9.out.trans (hbd.mono HW9.out.size))
          have HXd := hid ((hbd.block b7 (blk_lt HX9.out)).trans HX9.out)
          have HSd := hid (Nat.le_trans HS9.out hbd.size)
          clear hwd hwd' hbd ct
          go_wp2_with fail
          have UP := hid ((Upd.refl (fun j => j = t8) wd).setCell (p := ⟨t8, k, none⟩) (fun _ => rfl) (.int .i64 (E : Int)))
          have hnt : ∀ j, j < 2 → ∀ y, rS (p j) none (o' j) y → y ≠ t8 := fun j hj y hy e => by
            have h1 := HLT.out
            have hp := HP.out
            rcases hy with h | h | h
            · have : p j = p0 ∨ p j = p1 := by
                rcases (show j = 0 ∨ j = 1 by omega) with h | h
                · subst h; exact .inl hp.1
                · subst h; exact .inr hp.2
              omega
            · cases h
            · have := HO9.out j hj y h
              have := blk_lt HX7.out
              omega
          have HDf : Hid (Duo (wd.setCell ⟨t8, k, none⟩ (.int .i64 (E : Int))) d D9 l w.heap.size p o' R') := hid ⟨fun j hj => ⟨(HDd.out.on j hj).mem.beside UP.out (fun y hy e => hy.elim (fun h => hnt j hj y h e) fun h => by have := HLT.out.2.1 y h; have := HLT.out.1; omega), (HDd.out.on j hj).good, (HDd.out.on j hj).fa, (HDd.out.on j hj).hh⟩, HDd.out.ch, HDd.out.ap, HDd.out.nw, HDd.out.cs, HDd.out.ci⟩
          have HTf : Hid ((wd.setCell ⟨t8, k, none⟩ (.int .i64 (E : Int))).heap[t8]? = some (.cells #[.int .i64 ((R' 0).pos : Int), .int .i64 ((R' 1).pos : Int)] 51 (0, 0))) := hid (by
            rw [heap_setCell_same wd t8 k _ _ _ HTd.out]
            have hk := HK2.out
            rcases (show k = 0 ∨ k = 1 by omega) with h | h
            · subst h
              rw [HR1.out.1, HR1.out.2 1 (by omega)]
              rfl
            · subst h
              rw [HR1.out.1, HR1.out.2 0 (by omega)]
              rfl)
          have HXf := hid ((UP.out.block b7 (blk_lt HXd.out) (fun e => by have := HLT.out.1; omega)).trans HXd.out)
          have HWf := hid (HWd.out.setCell (p := ⟨t8, k, none⟩) (by have := HTL.out; exact this) (.int .i64 (E : Int)))
          go_roundg (len - (i + 1))
          case measure => have := HIL.out; omega
          case rel => exact ⟨i + 1, D9, o', R', rfl, HIL.out, by go_num, HDf, HXf, HTf, HWf, hid (Nat.le_trans HSd.out UP.out.size), HO9⟩
      · have hcp' : ¬ cap = ps := hcp
        obtain ⟨bb, off2, rfl⟩ := HCA.out (by have := HLP.out; omega)
        have HBS : Hid (BytesIn w9.drew (some ⟨bb, off2 + ps, none⟩) ((l.drop ps).take m)) := hid (fun hne => by
          have hln : l ≠ [] := fun h => hne (by rw [h]; simp)
          obtain ⟨b', x', e, hb', hby⟩ := HIN.out hln
          cases e
          have hwl : w.heap.size ≤ w9.heap.size := HW9.out.size
          exact ⟨bb, off2 + ps, rfl, Nat.lt_of_lt_of_le hb' hwl, bytes_take (bytes_drop (fun i hi => (HW9.out.cell (p := ⟨bb, off2 + i, none⟩) hb').trans (hby i hi)) ps) m⟩)
        have hsm := same_any (w := w9.drew) (HBV.out.below (Below.refl _ w9).drew) HBS.out (by rw [← HNE.out]; have := HBG.out; have := HF.out; omega) (by rw [← HNE.out]; have := HBG.out; have := HF.out; omega) cv (cap - ps)
        rw [← HNE.out, decide_eq_true (Eq.refl ((l.drop ps).take m))] at hsm
        have HSM := hid hsm
        clear hsm
        refine wp_region_still_lit (by kernel_rfl) (by kernel_rfl) ?_
        repeat still_step
        still_call (HSM.out)
        refine wpStill_held ?_
        iterate 15 (refine held_on (by kernel_rfl) (fun K hK => ?_); go_simp; refine hK _ ?_; clear hK K)
        refine held_nil ?_
        generalize hwd : ({ heap := w9.heap, tape := w9.tape, drawn := w9.drawn + 1, os := w9.os, output := w9.output } : World) = wd
        have hwd' : w9.drew = wd := hwd
        have hbd : Below w9.heap.size w9 wd := by rw [← hwd']; exact (Below.refl _ w9).drew
        have dt : wd.cell? ⟨t8, k, none⟩ = some (.int .i64 (ps : Int)) := by rw [← hwd']; exact ct
        have HTd : Hid (wd.heap[t8]? = some (.cells #[.int .i64 ((R 0).pos : Int), .int .i64 ((R 1).pos : Int)] 51 (0, 0))) := hid (by rw [← hwd']; exact HT9.out)
        have ft := blk_free HTd.out k
        have HDd := hid (HD9.out.below hbd)
        have HWd := hid (HW9.out.trans (hbd.mono HW9.out.size))
        have HXd := hid ((hbd.block b7 (blk_lt HX9.out)).trans HX9.out)
        have HSd := hid (Nat.le_trans HS9.out hbd.size)
        clear hwd hwd' hbd ct
        go_wp2_with fail
        have UP := hid ((Upd.refl (fun j => j = t8) wd).setCell (p := ⟨t8, k, none⟩) (fun _ => rfl) (.int .i64 (E : Int)))
        have hnt : ∀ j, j < 2 → ∀ y, rS (p j) none (o' j) y → y ≠ t8 := fun j hj y hy e => by
          have h1 := HLT.out
          have hp := HP.out
          rcases hy with h | h | h
          · have : p j = p0 ∨ p j = p1 := by
              rcases (show j = 0 ∨ j = 1 by omega) with h | h
              · subst h; exact .inl hp.1
              · subst h; exact .inr hp.2
            omega
          · cases h
          · have := HO9.out j hj y h
            have := blk_lt HX7.out
            omega
        have HDf : Hid (Duo (wd.setCell ⟨t8, k, none⟩ (.int .i64 (E : Int))) d D9 l w.heap.size p o' R') := hid ⟨fun j hj => ⟨(HDd.out.on j hj).mem.beside UP.out (fun y hy e => hy.elim (fun h => hnt j hj y h e) fun h => by have := HLT.out.2.1 y h; have := HLT.out.1; omega), (HDd.out.on j hj).good, (HDd.out.on j hj).fa, (HDd.out.on j hj).hh⟩, HDd.out.ch, HDd.out.ap, HDd.out.nw, HDd.out.cs, HDd.out.ci⟩
        have HTf : Hid ((wd.setCell ⟨t8, k, none⟩ (.int .i64 (E : Int))).heap[t8]? = some (.cells #[.int .i64 ((R' 0).pos : Int), .int .i64 ((R' 1).pos : Int)] 51 (0, 0))) := hid (by
          rw [heap_setCell_same wd t8 k _ _ _ HTd.out]
          have hk := HK2.out
          rcases (show k = 0 ∨ k = 1 by omega) with h | h
          · subst h
            rw [HR1.out.1, HR1.out.2 1 (by omega)]
            rfl
          · subst h
            rw [HR1.out.1, HR1.out.2 0 (by omega)]
            rfl)
        have HXf := hid ((UP.out.block b7 (blk_lt HXd.out) (fun e => by have := HLT.out.1; omega)).trans HXd.out)
        have HWf := hid (HWd.out.setCell (p := ⟨t8, k, none⟩) (by have := HTL.out; exact this) (.int .i64 (E : Int)))
        go_roundg (len - (i + 1))
        case measure => have := HIL.out; omega
        case rel => exact ⟨i + 1, D9, o', R', rfl, HIL.out, by go_num, HDf, HXf, HTf, HWf, hid (Nat.le_trans HSd.out UP.out.size), HO9⟩
    · have hie : ¬ (i : Int) < (len : Int) := by omega
      have o0 := offset_any (w := wr.drew) ((HD.out.on 0 (by omega)).mem.rd.kept fun _ _ => rfl)
      have o1 := offset_any (w := wr.drew) ((HD.out.on 1 (by omega)).mem.rd.kept fun _ _ => rfl)
      rw [HP.out.1] at o0
      rw [HP.out.2] at o1
      obtain ⟨x0, hx0⟩ : ∃ x0, x0 = (R 0).pos := ⟨_, rfl⟩
      obtain ⟨x1, hx1⟩ : ∃ x1, x1 = (R 1).pos := ⟨_, rfl⟩
      rw [← hx0] at o0
      rw [← hx1] at o1
      have cb0 : wr.cell? ⟨b7, 0, none⟩ = some (.pointer (some ⟨p0, 0, none⟩)) := (blk_cell HX.out 0).trans rfl
      have cb1 : wr.cell? ⟨b7, 1, none⟩ = some (.pointer (some ⟨p1, 0, none⟩)) := (blk_cell HX.out 1).trans rfl
      have ct0 : wr.cell? ⟨t8, 0, none⟩ = some (.int .i64 (x0 : Int)) := (blk_cell HT.out 0).trans (by rw [hx0]; rfl)
      have ct1 : wr.cell? ⟨t8, 1, none⟩ = some (.int .i64 (x1 : Int)) := (blk_cell HT.out 1).trans (by rw [hx1]; rfl)
      have O0 := hid o0
      have O1 := hid o1
      clear hx0 hx1 o0 o1 hi hil hi63
      go_upto_region 22 with fail
      go_region_held3 (fun W' : World => W'.cell? ⟨b7, 0, none⟩ = some (.pointer (some ⟨p0, 0, none⟩)) ∧ W'.cell? ⟨b7, 1, none⟩ = some (.pointer (some ⟨p1, 0, none⟩)) ∧ W'.cell? ⟨t8, 0, none⟩ = some (.int .i64 (x0 : Int)) ∧ W'.cell? ⟨t8, 1, none⟩ = some (.int .i64 (x1 : Int))) (go_keep) (first | (go_at_call_of 20 (Value.pointer (some ⟨p0, 0, none⟩)); refine O0.out.mono ?_; rintro e w9 ⟨rfl, h9⟩; rw [h9]; clear h9 w9) | (go_at_call_of 20 (Value.pointer (some ⟨p1, 0, none⟩)); refine O1.out.mono ?_; rintro e w9 ⟨rfl, h9⟩; rw [h9]; clear h9 w9))
      all_goals go_wp2_with fail
      all_goals go_ret
      all_goals exact ⟨by simp, HW.out.drew⟩
end Go.Proofs.Ytkhejipcclpknaa
