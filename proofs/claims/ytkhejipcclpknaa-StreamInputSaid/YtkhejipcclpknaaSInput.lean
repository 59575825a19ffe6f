/- The walk of StreamInput. No statement is proved here. -/
import Derived.Test.YtkhejipcclpknaaUI
import Derived.Deep.LoopGhost
set_option linter.unusedVariables false
set_option linter.unusedSimpArgs false
namespace Go.Proofs.Ytkhejipcclpknaa
open Go.RowKit

theorem field_cnt0 (a b c d : Int) (W : World) : (Instr.field 55 (.agg #[.int .i64 a, .int .i64 b, .int .i64 c, .int .i64 d]) 0).run Try.prog W = .ok (.int .i64 a) W := by kernel_rfl
theorem field_cnt1 (a b c d : Int) (W : World) : (Instr.field 55 (.agg #[.int .i64 a, .int .i64 b, .int .i64 c, .int .i64 d]) 1).run Try.prog W = .ok (.int .i64 b) W := by kernel_rfl
theorem hd_blocks {D : Dv} {l : List Int} (h : D.inp = l) (hu : 0 < D.unit) : hd D.unit l.length + 1 = ((D.blocks : Nat) : Int) := by
  unfold hd Dv.blocks
  rw [h]
  by_cases h0 : l.length = 0
  · rw [if_pos h0, h0, Nat.zero_add, Nat.div_eq_of_lt (by omega)]
    rfl
  · rw [if_neg h0, show l.length + D.unit - 1 = (l.length - 1) + D.unit by omega, Nat.add_div_right _ hu]
    rfl
set_option maxHeartbeats 8000000 in
set_option maxRecDepth 100000 in
theorem sinput_out (a : Option Addr) (cap L : Nat) (bk : Int) (a2 : Option Addr) (len cap2 : Nat) (w : World) (h : bk < 16 ∨ 1024 < bk ∨ 4194304 < L) :
    Calls Try.prog 5 #[.slice a L cap, .int .i64 bk, .slice a2 len cap2] w fun e w' => e = .returned (.bool true) ∧ Below w.heap.size w w' := by
  have HA := hid (anchor_any w)
  by_cases h1 : bk < 16
  · clear h
    go_enter Try.func5, Try.ntmps5
    go_wp2_with (go_at_call 10; refine HA.out.mono ?_; rintro e w1 ⟨rfl, hb1⟩)
    go_ret
    exact ⟨rfl, hb1⟩
  by_cases h2 : 1024 < bk
  · clear h
    go_enter Try.func5, Try.ntmps5
    go_wp2_with (go_at_call 10; refine HA.out.mono ?_; rintro e w1 ⟨rfl, hb1⟩)
    go_ret
    exact ⟨rfl, hb1⟩
  have h3 : (4194304 : Int) < (L : Int) := by omega
  clear h
  go_enter Try.func5, Try.ntmps5
  go_wp2_with (go_at_call 10; refine HA.out.mono ?_; rintro e w1 ⟨rfl, hb1⟩)
  go_ret
  exact ⟨rfl, hb1⟩
set_option maxHeartbeats 8000000 in
set_option maxRecDepth 100000 in
theorem sinput_in (a : Option Addr) (cap : Nat) (l : List Int) (U : Nat) (a2 : Option Addr) (len cap2 : Nat) (xs : Nat → Int) (w : World) (hin : BytesIn w a l) (hcap : l.length ≤ cap) (hin2 : IntsIn w a2 len xs) (hU0 : 16 ≤ U) (hU1 : U ≤ 1024) (hbig : l.length ≤ 4194304) :
    Calls Try.prog 5 #[.slice a l.length cap, .int .i64 (U : Int), .slice a2 len cap2] w fun e w' => e = .returned (.bool true) ∧ Below w.heap.size w w' := by
  have HA := hid (anchor_any w)
  obtain ⟨L, hL⟩ : ∃ L, L = l.length := ⟨_, rfl⟩
  rw [← hL] at hcap hbig ⊢
  have HL := hid hL
  have HIN := hid hin
  have HIN2 := hid hin2
  have HCP := hid hcap
  have HU := hid (And.intro hU0 hU1)
  have HBG := hid hbig
  have g1 : ¬ (U : Int) < 16 := by omega
  have g2 : ¬ (1024 : Int) < (U : Int) := by omega
  have g3 : ¬ (4194304 : Int) < (L : Int) := by omega
  have g4 : ¬ U < 16 := by omega
  have g5 : ¬ 1024 < U := by omega
  have g6 : ¬ 4194304 < L := by omega
  clear hL hin hin2 hcap hU0 hU1 hbig
  go_enter Try.func5, Try.ntmps5
  go_upto_region 5 with (go_at_call 10; refine HA.out.mono ?_; rintro e w1 ⟨rfl, hb1⟩)
  clear g1 g2 g3 g4 g5 g6
  have HB1 := hid hb1
  have hal := (Below.refl _ w1).alloc (Nat.le_refl _) (.cells #[] 5)
  obtain ⟨g, ic, w2, hrun, hown, hgr, hg⟩ := app_onto (heap_alloc_new w1 (.cells #[] 5)) 22 L cap HL.out.symm ((HIN.out.below hb1).below hal) (by have := HBG.out; omega) (fun _ _ _ _ => trivial)
  have HB12 := hid (hal.grown hgr hal.size (fun k e => by cases e; exact Nat.le_refl _))
  have HB2 := hid (HB1.out.trans (HB12.out.mono HB1.out.size))
  have hnew := new_plain (w := w2) (a := some ⟨g, 0, none⟩) (l := l) U 0 HU.out.1 HU.out.2 (by omega) (by rw [← HL.out]; exact HBG.out) (bytes_own (by rw [HL.out] at hown; exact hown)) ic
  rw [← HL.out] at hnew
  have HNEW := hid hnew
  clear hb1 hal hown hgr hg hnew HA
  go_upto_region 8 with (first | (at_builtin; refine wpList_append_run _ rfl (.tmp 36) (.tmp 37) 22 22 rfl _ _ rfl rfl hrun ?_) | (go_at_call 11; refine HNEW.out.mono ?_; rintro e w3 ⟨d, rfl, hd3, hb3, hn3⟩))
  clear hrun
  have HD3 := hid hd3
  have HB3 := hid (HB2.out.trans (hb3.mono HB2.out.size))
  have HN3 := hid (fun k hk => Nat.le_trans HB2.out.size (hn3 k hk))
  have HI3 := hid (input_on hd3 ⟨rfl, rfl⟩)
  clear hd3 hb3 hn3 HNEW
  go_upto_region 11 with (go_at_call 18; refine HI3.out.mono ?_; rintro e w7 ⟨p, rfl, hr7, hp7, hb7⟩)
  have HINP : Hid (Inp w w7 w7 p d none ⟨U, none, l.length, 0, -1, [], 0⟩ ⟨U, 0, l, List.replicate (U * 0) 0, [], fun _ _ => 0, 0, 0, 0, 0, false⟩ l 0 none 0 0) := hid (by
    have hB := HB3.out.trans (hb7.mono HB3.out.size)
    refine ⟨hr7, rfl, rfl, rfl, World.ownsRow_nil _ _ _ _, fun k hk => (by cases hk), rfl, rfl, hB, Nat.le_refl _, fun k hk => ?_, ⟨hr7.mem.rd.lt p (.inl rfl), fun k hk => hr7.mem.dv.lt k hk, hB.size⟩⟩
    rcases hk with (hk | hk | hk) | hk
    · have := HB3.out.size; omega
    · cases hk
    · cases hk
    · exact HN3.out k hk)
  clear hr7 hp7 hb7 HI3 HD3 HN3
  go_wp2_with fail
  go_loopg [10, 54] len (fun gh s10 s54 wr => ∃ (i : Nat) (D : Dv) (o : Option Nat) (R : Rd) (pos : Nat) (al : Option Addr) (n c : Nat), len - i = gh ∧ i ≤ len ∧ s10 = .slice al n c ∧ s54 = .int .i64 (i : Int) ∧ Hid (Inp w w7 wr p d o R D l pos al n c ∧ D.unit = U ∧ D.inp = l))
  case atStart => exact ⟨0, _, _, _, 0, none, 0, 0, rfl, Nat.zero_le _, rfl, rfl, hid ⟨HINP.out, rfl, rfl⟩⟩
  case round =>
    clear HINP
    obtain ⟨i, D, o, R, pos, al, n, c, rfl, hi, rfl, rfl, HD⟩ := hrel
    by_cases hil : i < len
    · have hi63 := HIN2.out.1
      obtain ⟨bq, off, rfl, hbq, hcq, hx0, hx1⟩ := HIN2.out.2 i hil
      have cx := (HD.out.1.be.cell (p := ⟨bq, off + i, none⟩) hbq).trans hcq
      have hilI : (i : Int) < (len : Int) := by omega
      have hi1 : (i : Int) + 1 ≤ 9223372036854775807 := by omega
      have HIL := hid (And.intro hil hi1)
      obtain ⟨x, hx⟩ : ∃ x, x = xs i := ⟨_, rfl⟩
      rw [← hx] at cx hx0 hx1
      have HRO := hid (ask_on HD.out.1.on (HD.out.1.cok (by rw [← HL.out]; have := HBG.out; omega)) x ⟨hx0, hx1⟩)
      clear hbq hcq hi hx hil hi63 hx0 hx1
      go_upto_region 16 with (go_at_call 19; refine HRO.out.mono ?_; rintro e w9 ⟨av, cv, K, o9, R9, D9, hK0, rfl, hv9, hk9, hvn9, hr9, hst9, hps9, hsz9, hch9, hrs9⟩; have HKE := hid hK0; clear hK0)
      clear cx
      have hK := HKE.out
      have hpp := HD.out.1.ps
      rw [hpp] at hv9 hk9 hps9 hrs9 hK
      have HMID := hid (HD.out.1.mid hv9 hk9 hr9 hst9 hps9 hch9 hrs9)
      have HUN := hid (And.intro (hrs9.un.trans HD.out.2.1) (hrs9.ip.trans HD.out.2.2))
      have HKK := hid (show K ≤ L - pos by
        have h1 := HD.out.1.le
        have h2 := HL.out
        split at hK
        · omega
        · omega)
      clear hv9 hk9 hvn9 hr9 hst9 hps9 hsz9 hch9 hrs9 hpp hK HRO
      obtain ⟨al2, c2, w10, hrun, hinp⟩ := HMID.out.take (by have := HD.out.1.le; have := HD.out.1.np; have := HKK.out; have := HL.out; have := HBG.out; omega)
      have HJ := hid hinp
      clear hinp
      have hN : ∃ N, N = n + K := ⟨_, rfl⟩
      obtain ⟨N, hN⟩ := hN
      rw [← hN] at HJ hrun
      have HNP := hid (show N = pos + K by have := HD.out.1.np; omega)
      clear hN
      have ho := offset_any HJ.out.on.mem.rd
      have hlf := rleft_any HJ.out.on.mem.rd HJ.out.on.good.ok.pos (by have := HJ.out.on.good.ok.sz; omega)
      have hR9 : R9.pos = N := by rw [HJ.out.ps, HNP.out]
      have hR9s : R9.size = L := by rw [HL.out, HJ.out.le.2]
      rw [hR9] at ho
      rw [hR9, hR9s] at hlf
      have HOF := hid ho
      have HLF := hid hlf
      have hNL : N ≤ L := by have := HD.out.1.le; have := HKK.out; have := HNP.out; have := HL.out; omega
      have hwL : IntKind.i64.wrap ((L : Int) - (N : Int)) = ((L - N : Nat) : Int) := by
        rw [show (L : Int) - (N : Int) = ((L - N : Nat) : Int) by omega]
        exact wrap_id (by omega) (by have := HBG.out; omega)
      obtain ⟨Y, hY⟩ : ∃ Y, Y = L - N := ⟨_, rfl⟩
      rw [← hY] at HLF hwL
      clear ho hlf hR9 hR9s hY hNL
      by_cases hbad : bad x = true
      · rw [if_pos hbad]
        have HBAD := hid hbad
        by_cases hneg : x < 0
        · clear hbad
          go_wp2_with (first | (at_builtin; refine wpList_append_run _ rfl (.tmp 73) (.tmp 74) 22 22 rfl _ _ rfl rfl hrun ?_) | (go_at_call 20; refine HOF.out.mono ?_; rintro e w11 ⟨rfl, h11⟩; rw [h11]; clear h11 w11) | (go_at_call 21; refine HLF.out.mono ?_; rintro e w11 ⟨rfl, h11⟩; rw [h11]; clear h11 w11))
          go_roundg (len - (i + 1))
          case measure => have := HIL.out; omega
          case rel => exact ⟨i + 1, D9, o9, R9, pos + K, al2, N, c2, rfl, HIL.out.1, rfl, by go_num, hid ⟨HJ.out.below (Below.refl _ _).drew, HUN.out⟩⟩
        · have hgt : 65536 < x := by unfold bad at hbad; simp at hbad; omega
          clear hbad
          go_wp2_with (first | (at_builtin; refine wpList_append_run _ rfl (.tmp 73) (.tmp 74) 22 22 rfl _ _ rfl rfl hrun ?_) | (go_at_call 20; refine HOF.out.mono ?_; rintro e w11 ⟨rfl, h11⟩; rw [h11]; clear h11 w11) | (go_at_call 21; refine HLF.out.mono ?_; rintro e w11 ⟨rfl, h11⟩; rw [h11]; clear h11 w11))
          go_roundg (len - (i + 1))
          case measure => have := HIL.out; omega
          case rel => exact ⟨i + 1, D9, o9, R9, pos + K, al2, N, c2, rfl, HIL.out.1, rfl, by go_num, hid ⟨HJ.out.below (Below.refl _ _).drew, HUN.out⟩⟩
      · rw [if_neg hbad]
        have hneg : ¬ x < 0 := by unfold bad at hbad; simp at hbad; omega
        have hgt : ¬ 65536 < x := by unfold bad at hbad; simp at hbad; omega
        clear hbad
        go_wp2_with (first | (at_builtin; refine wpList_append_run _ rfl (.tmp 73) (.tmp 74) 22 22 rfl _ _ rfl rfl hrun ?_) | (go_at_call 20; refine HOF.out.mono ?_; rintro e w11 ⟨rfl, h11⟩; rw [h11]; clear h11 w11) | (go_at_call 21; refine HLF.out.mono ?_; rintro e w11 ⟨rfl, h11⟩; rw [h11]; clear h11 w11))
        go_roundg (len - (i + 1))
        case measure => have := HIL.out; omega
        case rel => exact ⟨i + 1, D9, o9, R9, pos + K, al2, N, c2, rfl, HIL.out.1, rfl, by go_num, hid ⟨HJ.out.below (Below.refl _ _).drew, HUN.out⟩⟩
    · have hie : ¬ (i : Int) < (len : Int) := by omega
      clear hi hil
      go_wp2_with fail
      go_loopg [10, 15] (L - pos) (fun gh s10 s15 wr => ∃ (k : Nat) (D : Dv) (o : Option Nat) (R : Rd) (pos : Nat) (al : Option Addr) (n c : Nat), L - pos = gh ∧ k ≤ pos ∧ s10 = .slice al n c ∧ s15 = .int .i64 (k : Int) ∧ Hid (Inp w w7 wr p d o R D l pos al n c ∧ D.unit = U ∧ D.inp = l))
      case atStart => exact ⟨0, D, o, R, pos, al, n, c, rfl, Nat.zero_le _, rfl, rfl, HD⟩
      case round =>
        clear HD
        obtain ⟨k, D, o, R, pos, al, n, c, rfl, hkp, rfl, rfl, HD⟩ := hrel
        have HKP := hid hkp
        have hlf := rleft_any HD.out.1.on.mem.rd HD.out.1.on.good.ok.pos (by have := HD.out.1.on.good.ok.sz; omega)
        have hRs : R.size = L := by rw [HL.out, HD.out.1.le.2]
        rw [HD.out.1.ps, hRs] at hlf
        have hpL : pos ≤ L := by have := HD.out.1.le; have := HL.out; omega
        have HPL := hid hpL
        obtain ⟨Y, hY⟩ : ∃ Y, Y = L - pos := ⟨_, rfl⟩
        rw [← hY] at hlf
        have HLF := hid hlf
        have HY := hid hY
        have HD2 := hid (HD.out.1.below (Below.refl _ _).drew)
        clear hlf hRs hkp hpL hY
        by_cases hlt : 0 < Y
        · have hltI : (0 : Int) < (Y : Int) := by omega
          have hkL : (k : Int) ≤ (L : Int) := by have := HKP.out; have := HPL.out; omega
          have hkLn : k ≤ L := by omega
          have HRO := hid (ask_on HD2.out.on (HD2.out.cok (by rw [← HL.out]; have := HBG.out; omega)) 16 (by omega))
          have HLT := hid hlt
          go_upto_region 26 with (first | (go_at_call 21; refine HLF.out.mono ?_; rintro e w11 ⟨rfl, h11⟩; rw [h11]; clear h11 w11) | (go_at_call 19; refine HRO.out.mono ?_; rintro e w9 ⟨av, cv, K, o9, R9, D9, hK0, rfl, hv9, hk9, hvn9, hr9, hst9, hps9, hsz9, hch9, hrs9⟩; have HKE := hid hK0; clear hK0))
          have hK := HKE.out
          rw [show bad 16 = false from rfl] at hK ⊢
          rw [if_neg (by decide)] at hK ⊢
          have hpp := HD2.out.ps
          rw [hpp] at hv9 hk9 hps9 hrs9 hK
          have HMID := hid (HD2.out.mid hv9 hk9 hr9 hst9 hps9 hch9 hrs9)
          have HUN := hid (And.intro (hrs9.un.trans HD.out.2.1) (hrs9.ip.trans HD.out.2.2))
          have hRs2 := HD2.out.le.2
          have HKK := hid (show K ≤ L - pos ∧ 1 ≤ K by
            have h2 := HL.out
            have h3 := HY.out
            rw [show (16 : Int).toNat = 16 from rfl] at hK
            omega)
          clear hv9 hk9 hvn9 hr9 hst9 hps9 hsz9 hch9 hrs9 hpp hK HRO hRs2
          obtain ⟨al2, c2, w10, hrun, hinp⟩ := HMID.out.take (by have := HD2.out.le; have := HD2.out.np; have := HKK.out; have := HL.out; have := HBG.out; omega)
          have HJ := hid hinp
          obtain ⟨N, hN⟩ : ∃ N, N = n + K := ⟨_, rfl⟩
          rw [← hN] at HJ hrun
          clear hinp hN
          have hKn : ¬ (K : Int) = 0 := by have := HKK.out; omega
          have hKb : ((K : Int) == 0) = false := beq_eq_false_iff_ne.mpr hKn
          have hk1 : (k : Int) + 1 ≤ 9223372036854775807 := by have := HKP.out; have := HPL.out; have := HBG.out; omega
          go_wp2_with (at_builtin; refine wpList_append_run _ rfl (.tmp 115) (.tmp 116) 22 22 rfl _ _ rfl rfl hrun ?_)
          go_roundg (L - (pos + K))
          case measure => have := HKK.out; have := HY.out; have := HLT.out; omega
          case rel => exact ⟨k + 1, D9, o9, R9, pos + K, al2, N, c2, rfl, by have := HKK.out; have := HKP.out; omega, rfl, by go_num, hid ⟨HJ.out, HUN.out⟩⟩
        · have hY0 : Y = 0 := by omega
          subst hY0
          have hpe : pos = L := by have := HY.out; have := HPL.out; omega
          have HPE := hid hpe
          have HRO := hid (ask_on HD2.out.on (HD2.out.cok (by rw [← HL.out]; have := HBG.out; omega)) 5 (by omega))
          clear hpe hlt
          go_upto_region 30 with (first | (go_at_call 21; refine HLF.out.mono ?_; rintro e w11 ⟨rfl, h11⟩; rw [h11]; clear h11 w11) | (go_at_call 19; refine HRO.out.mono ?_; rintro e w9 ⟨av, cv, K, o9, R9, D9, hK0, rfl, hv9, hk9, hvn9, hr9, hst9, hps9, hsz9, hch9, hrs9⟩; have HKE := hid hK0; clear hK0))
          have hK := HKE.out
          rw [show bad 5 = false from rfl] at hK ⊢
          rw [if_neg (by decide)] at hK ⊢
          have hpp := HD2.out.ps
          rw [hpp] at hv9 hk9 hps9 hrs9 hK
          have HMID := hid (HD2.out.mid hv9 hk9 hr9 hst9 hps9 hch9 hrs9)
          have hK0 : K = 0 := by
            have := HD2.out.le
            have h2 := HL.out
            have h3 := HPE.out
            omega
          subst hK0
          have HUN := hid (And.intro (hrs9.un.trans HD.out.2.1) (hrs9.ip.trans HD.out.2.2))
          clear hv9 hk9 hvn9 hr9 hst9 hps9 hsz9 hch9 hrs9 hpp hK HRO
          have hall : l.take pos = l := by rw [HPE.out, HL.out, List.take_length]
          have hnl : n = l.length := by rw [HMID.out.np, HPE.out, HL.out]
          have how := HMID.out.ow
          rw [hall] at how
          have hba : BytesIn w9 al l := bytes_own (by rw [← hnl]; exact how)
          have hsm := same_any hba (HIN.out.below HMID.out.be) (by rw [← HL.out]; have := HBG.out; omega) (by rw [← HL.out]; have := HBG.out; omega) c cap
          rw [← HL.out, decide_eq_true (Eq.refl l)] at hsm
          have hnL : n = L := by rw [hnl, HL.out]
          subst hnL
          have HSM := hid hsm
          have hci : D9.ci = ((D9.blocks : Nat) : Int) := by
            rw [HMID.out.ci, Nat.add_zero, HPE.out, HL.out]
            exact hd_blocks HUN.out.2 (by rw [HUN.out.1]; have := HU.out; omega)
          have hct := counts_any HMID.out.on.mem.dv
          rw [hci, HMID.out.cs] at hct
          have HCT := hid hct
          have HDV := hid HMID.out.on.mem.dv
          have HBE := hid HMID.out.be
          obtain ⟨nb, hnb⟩ : ∃ nb, nb = D9.blocks := ⟨_, rfl⟩
          rw [← hnb] at HCT
          have HNB := hid hnb
          obtain ⟨cw, hcw⟩ : ∃ cw, cw = D9.cw := ⟨_, rfl⟩
          obtain ⟨ck, hck⟩ : ∃ ck, ck = D9.ck := ⟨_, rfl⟩
          rw [← hcw, ← hck] at HCT
          have hf0 := field_cnt0 (nb : Int) 0 cw ck
          have hf1 := field_cnt1 (nb : Int) 0 cw ck
          have HCW := hid (And.intro (And.intro hcw hck) (And.intro HMID.out.cs hci))
          clear hall hnl how hba hsm hci hct hnb hcw hck HMID
          go_wp2_with (first | (go_at_call 15; refine HSM.out.mono ?_; rintro e w11 ⟨rfl, h11⟩; rw [h11]; clear h11 w11) | (go_at_call 22; refine HCT.out.mono ?_; rintro e w12 ⟨rfl, hb12⟩; have HB12 := hid hb12; have hbl := blocks_any (HDV.out.below hb12); rw [← HNB.out] at hbl; have HBL := hid hbl; have hct := counts_any ((HDV.out.below hb12).kept (w' := w12.drew) fun _ _ => rfl); rw [HCW.out.2.2, HCW.out.2.1, ← HNB.out, ← HCW.out.1.1, ← HCW.out.1.2] at hct; have HCT2 := hid hct; clear hb12 hbl hct HCT) | (go_at_call 23; refine HBL.out.mono ?_; rintro e w13 ⟨rfl, h13⟩; rw [h13]; clear h13 w13) | (go_at_call 22; refine HCT2.out.mono ?_; rintro e w14 ⟨rfl, hb14⟩; have HB14 := hid hb14; clear hb14))
          go_ret
          have h12 := HBE.out.trans (HB12.out.mono HBE.out.size)
          exact ⟨by simp, h12.trans (((Below.refl _ _).drew.trans HB14.out).mono h12.size)⟩
theorem sinput_walk (a : Option Addr) (cap : Nat) (l : List Int) (bk : Int) (a2 : Option Addr) (len cap2 : Nat) (xs : Nat → Int) (w : World) (hin : BytesIn w a l) (hcap : l.length ≤ cap) (hin2 : IntsIn w a2 len xs) :
    Calls Try.prog 5 #[.slice a l.length cap, .int .i64 bk, .slice a2 len cap2] w fun e w' => e = .returned (.bool true) ∧ Below w.heap.size w w' := by
  by_cases h : bk < 16 ∨ 1024 < bk ∨ 4194304 < l.length
  · exact sinput_out a cap l.length bk a2 len cap2 w h
  · obtain ⟨U, rfl⟩ := Int.eq_ofNat_of_zero_le (show 0 ≤ bk by omega)
    exact sinput_in a cap l U a2 len cap2 xs w hin hcap hin2 (by omega) (by omega) (by omega)
end Go.Proofs.Ytkhejipcclpknaa
