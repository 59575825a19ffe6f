/- The walk of StreamBack. No statement is proved here. -/
import Derived.Test.YtkhejipcclpknaaUM
import Derived.Test.YtkhejipcclpknaaIno
import Derived.Deep.LoopGhost
import Derived.Deep.DeepCutAuto
set_option linter.unusedVariables false
set_option linter.unusedSimpArgs false
namespace Go.Proofs.Ytkhejipcclpknaa
open Go.RowKit

theorem own_ltX {w : World} {B : Nat} {e : TypeId} {size : Nat} {v : Value} {n : Nat} {xs : List Value} (h : w.ownsRow B e size v n xs) : ∀ k, v.ownBlock = some k → k < w.heap.size := fun k hk => by
  rcases h.2 with ⟨rfl, _⟩ | ⟨g, cap, cur, rfl, _, hg, _⟩
  · cases hk
  · cases hk
    exact blk_lt hg
theorem field_cnt2b (a b c d : Int) (W : World) : (Instr.field 55 (.agg #[.int .i64 a, .int .i64 b, .int .i64 c, .int .i64 d]) 2).run Try.prog W = .ok (.int .i64 c) W := by kernel_rfl
theorem field_cnt1b (a b c d : Int) (W : World) : (Instr.field 55 (.agg #[.int .i64 a, .int .i64 b, .int .i64 c, .int .i64 d]) 1).run Try.prog W = .ok (.int .i64 b) W := by kernel_rfl
theorem need_ceil {a u : Nat} (hu : 0 < u) : needN a u = (a + u - 1) / u := by
  have h1 := hd_need (U := u) (L := a) hu
  have h2 : hd u a + 1 = (((a + u - 1) / u : Nat) : Int) := by
    unfold hd
    by_cases h0 : a = 0
    · rw [if_pos h0, h0, Nat.zero_add, Nat.div_eq_of_lt (by omega)]
      rfl
    · rw [if_neg h0, show a + u - 1 = (a - 1) + u by omega, Nat.add_div_right _ hu]
      rfl
  omega
theorem tot_mono (q : Nat → Option Addr × List Int × Nat) (m : Nat) : ∀ k, tot q m ≤ tot q (m + k)
  | 0 => Nat.le_refl _
  | k + 1 => Nat.le_trans (tot_mono q m k) (Nat.le_add_right _ _)
set_option maxHeartbeats 8000000 in
set_option maxRecDepth 100000 in
theorem back_walk (bk : Int) (hbk : -9223372036854775808 ≤ bk ∧ bk ≤ 9223372036854775807) (a : Option Addr) (len cap : Nat) (q : Nat → Option Addr × List Int × Nat) (a2 : Option Addr) (cap2 : Nat) (l2 : List Int) (w : World) (hp : PiecesIn w a len q) (ho : BytesIn w a2 l2) (hml : l2.length ≤ maxLen) :
    Calls Try.prog 6 #[.int .i64 bk, .slice a len cap, .slice a2 l2.length cap2] w fun e w' => e = .returned (.bool true) ∧ Below w.heap.size w w' := by
  have HA := hid (anchor_any w)
  obtain ⟨L2, hL2⟩ : ∃ L2, L2 = l2.length := ⟨_, rfl⟩
  rw [← hL2] at hml ⊢
  have HL2 := hid hL2
  have HP := hid hp
  have HO := hid ho
  have HBK := hid hbk
  have HML := hid hml
  clear hp ho hbk hL2 hml
  go_enter Try.func6, Try.ntmps6
  go_upto_region 4 with (go_at_call 10; refine HA.out.mono ?_; rintro e w1 ⟨rfl, hb1⟩)
  have HB1 := hid hb1
  clear hb1 HA
  go_wp2_with fail
  go_loopg [7, 36] len (fun gh s7 s36 wr => ∃ (i T : Nat), len - i = gh ∧ i ≤ len ∧ s7 = .int .i64 (T : Int) ∧ s36 = .int .i64 (i : Int) ∧ wr = w1 ∧ Hid (T = tot q i ∧ T ≤ 24000 ∧ ∀ j, j < i → (q j).2.1.length ≤ 4000))
  case atStart => exact ⟨0, 0, rfl, Nat.zero_le _, rfl, rfl, rfl, hid ⟨rfl, Nat.zero_le _, fun j hj => by omega⟩⟩
  case round =>
    obtain ⟨i, T, rfl, hi, rfl, rfl, rfl, HT⟩ := hrel
    by_cases hil : i < len
    · have hi63 := HP.out.1
      obtain ⟨b, off, rfl, hb, hc, hby⟩ := HP.out.2 i hil
      have cx := (HB1.out.cell (p := ⟨b, off + i, none⟩) hb).trans hc
      have hilI : (i : Int) < (len : Int) := by omega
      have hi1 : (i : Int) + 1 ≤ 9223372036854775807 := by omega
      have HIL := hid (And.intro hil hi1)
      obtain ⟨n, hn⟩ : ∃ n, n = (q i).2.1.length := ⟨_, rfl⟩
      obtain ⟨ai, hai⟩ : ∃ ai, ai = (q i).1 := ⟨_, rfl⟩
      obtain ⟨ci, hci⟩ : ∃ ci, ci = (q i).2.2 := ⟨_, rfl⟩
      rw [← hn, ← hai, ← hci] at cx
      have HN := hid hn
      clear hi63 hb hc hby hi hil hn hai hci
      by_cases hbig : 4000 < n
      · have hbigI : (4000 : Int) < (n : Int) := by omega
        go_wp2_with fail
        go_ret
        exact ⟨rfl, HB1.out⟩
      by_cases hbt : 20000 < T
      · have hbtI : (20000 : Int) < (T : Int) := by omega
        have hbigI : ¬ (4000 : Int) < (n : Int) := by omega
        go_wp2_with fail
        go_ret
        exact ⟨rfl, HB1.out⟩
      have hbigI : ¬ (4000 : Int) < (n : Int) := by omega
      have hbtI : ¬ (20000 : Int) < (T : Int) := by omega
      have hwt : IntKind.i64.wrap ((T : Int) + (n : Int)) = ((T + n : Nat) : Int) := by
        rw [show (T : Int) + (n : Int) = ((T + n : Nat) : Int) by omega]
        exact wrap_id (by omega) (by omega)
      have HTN := hid (show n ≤ 4000 ∧ T ≤ 20000 by omega)
      go_wp2_with fail
      go_roundg (len - (i + 1))
      case measure => have := HIL.out; omega
      case rel => exact ⟨i + 1, T + n, rfl, HIL.out.1, rfl, by go_num, rfl, hid ⟨by rw [HT.out.1, HN.out]; rfl, by have := HTN.out; omega, fun j hj => by
        by_cases hji : j < i
        · exact HT.out.2.2 j hji
        · have : j = i := by omega
          subst this
          rw [← HN.out]
          exact HTN.out.1⟩⟩
    · have hie : ¬ (i : Int) < (len : Int) := by omega
      have hiel : i = len := by omega
      subst hiel
      have HPL := hid HT.out
      clear hi hil hie
      by_cases hg : bk < 16 ∨ 1024 < bk ∨ 1000 < L2
      · by_cases h1 : bk < 16
        · clear hg
          go_wp2_with fail
          go_ret
          exact ⟨rfl, HB1.out⟩
        by_cases h2 : 1024 < bk
        · clear hg
          go_wp2_with fail
          go_ret
          exact ⟨rfl, HB1.out⟩
        have h3 : (1000 : Int) < (L2 : Int) := by omega
        clear hg
        go_wp2_with fail
        go_ret
        exact ⟨rfl, HB1.out⟩
      · obtain ⟨U, rfl⟩ := Int.eq_ofNat_of_zero_le (show 0 ≤ bk by omega)
        have HU := hid (show 16 ≤ U ∧ U ≤ 1024 ∧ L2 ≤ 1000 by omega)
        have g1 : ¬ (U : Int) < 16 := by omega
        have g2 : ¬ (1024 : Int) < (U : Int) := by omega
        have g3 : ¬ (1000 : Int) < (L2 : Int) := by omega
        have g4 : ¬ U < 16 := by omega
        have g5 : ¬ 1024 < U := by omega
        have g6 : ¬ 1000 < L2 := by omega
        clear hg
        go_upto_region 13 with fail
        clear g1 g2 g3 g4 g5 g6
        have HN := hid (new_plain (w := wr) (a := none) (l := []) U 4096 HU.out.1 HU.out.2.1 (by omega) (by simp) (fun h => absurd rfl h) 0)
        go_upto_region 14 with (go_at_call 11; refine HN.out.mono ?_; rintro e w2 ⟨d, rfl, hd, hb2, hn2⟩)
        have HD := hid hd
        have HB2 := hid (HB1.out.trans (hb2.mono HB1.out.size))
        have HN2 := hid (fun k hk => Nat.le_trans HB1.out.size (hn2 k hk))
        have HS := hid (space_any 4096 w2 (by omega))
        clear hd hb2 hn2 HN
        go_upto_region 17 with (go_at_call 12; refine HS.out.mono ?_; rintro e w3 ⟨s, os, rfl, hsp, hps, hos, hb3⟩)
        have HD3 := hid (HD.out.below hb3)
        have HAP := hid (beside_new HD.out hps hos)
        have HC := hid (create_on HD3.out hsp HAP.out ⟨rfl, rfl⟩ rfl (Int.le_refl _) (by show (0 : Int) ≤ _; omega))
        have HB3 := hid (HB2.out.trans (hb3.mono HB2.out.size))
        have HSN := hid (show ∀ k, sS s os k → w.heap.size ≤ k from fun k hk => Nat.le_trans HB2.out.size (by
          rcases hk with e | e
          · rw [e]; exact hps
          · exact hos k e))
        clear hsp hps hos hb3 HS
        go_upto_region 20 with (first | (go_at_call 13; refine HC.out.mono ?_; rintro e w4 ⟨p1, rfl, hw4, hp4, hb4⟩; have HW4 := hid hw4; have HP4 := hid hp4; have HB4 := hid hb4; have HC2 := hid (create_on hw4.mem.dv hw4.mem.sp HAP.out ⟨rfl, rfl⟩ rfl (Int.le_refl _) (by show (0 : Int) ≤ _; omega)); clear hw4 hp4 hb4 HC) | (go_at_call 13; refine HC2.out.mono ?_; rintro e w5 ⟨p2, rfl, hw5, hp5, hb5⟩))
        have hap12 : ∀ k, wS p1 none none k → ¬ wS p2 none none k := fun k hk hk' => by
          have h1 := HW4.out.mem.wt.lt p1 (.inl rfl)
          rcases hk with e | e | e
          · rcases hk' with e' | e' | e'
            · omega
            · cases e'
            · cases e'
          · cases e
          · cases e
        have HWW : Hid (WW w5 d s os 4096 (allFree 4096) ⟨U, 4096, [], List.replicate (U * 4096) 0, [], fun _ _ => 0, 0, 0, 0, 0, false⟩ p1 none none ⟨U, [], [], 0, 0, false⟩ [] [] p2 none none ⟨U, [], [], 0, 0, false⟩ [] []) := hid ⟨HW4.out.below hb5, hw5, hap12, fun b hb => (by cases hb), rfl, (by rw [cnt_all 4096 4096 (Nat.le_refl _)]; rfl), rfl⟩
        have HB5 := hid (HB3.out.trans ((HB4.out.trans (hb5.mono HB4.out.size)).mono HB3.out.size))
        have HNW : Hid (∀ k, (allS p1 none none d s os k ∨ wS p2 none none k) → w.heap.size ≤ k) := hid (fun k hk => by
          have h3 := HB3.out.size
          have h4 := HB4.out.size
          have hp4 := HP4.out
          rcases hk with ((hk | hk | hk) | hk | hk) | (hk | hk | hk)
          · omega
          · cases hk
          · cases hk
          · exact HN2.out k hk
          · exact HSN.out k hk
          · omega
          · cases hk
          · cases hk)
        clear hw5 hp5 hb5 hap12 HC2 HW4 HP4 HB4 HD HD3
        go_wp2_with fail
        go_loopg [16, 17, 101] i (fun gh s16 s17 s101 wr => ∃ (j : Nat) (os' : Option Nat) (F : Int → Bool) (D : Dv) (o1 o1' : Option Nat) (W1 : Wt) (a1 : List Int) (f1 : List Nat) (o2 o2' : Option Nat) (W2 : Wt) (b1 : List Int) (f2 : List Nat) (av : Option Addr) (an ac : Nat) (bv : Option Addr) (bn bc : Nat), i - j = gh ∧ j ≤ i ∧ s16 = .slice av an ac ∧ s17 = .slice bv bn bc ∧ s101 = .int .i64 (j : Int) ∧ Hid (BK w wr d s os' F D p1 o1 o1' W1 a1 f1 p2 o2 o2' W2 b1 f2 av an ac bv bn bc) ∧ Hid (D.unit = U ∧ an = tot q j ∧ bn ≤ 20000 ∧ D.ci = 0))
        case atStart => exact ⟨0, os, _, _, none, none, _, [], [], none, none, _, [], [], none, 0, 0, none, 0, 0, rfl, Nat.zero_le _, rfl, rfl, rfl, hid ⟨HWW.out, ⟨rfl, World.ownsRow_nil _ _ _ _, fun k hk => (by cases hk)⟩, ⟨rfl, World.ownsRow_nil _ _ _ _, fun k hk => (by cases hk)⟩, fun k hk => (by cases hk), HB5.out, HNW.out, fun k hk => (by rcases hk with h | h <;> cases h)⟩, hid ⟨rfl, rfl, Nat.zero_le _, rfl⟩⟩
        case round =>
          clear HWW HB5 HNW
          obtain ⟨j, os', F, D, o1, o1', W1, a1, f1, o2, o2', W2, b1, f2, av, an, ac, bv, bn, bc, rfl, hj, rfl, rfl, rfl, HK, HX⟩ := hrel
          by_cases hji : j < i
          · have hi63 := HP.out.1
            obtain ⟨bq, off, rfl, hbq, hcq, hby⟩ := HP.out.2 j hji
            have cx := (HK.out.be.cell (p := ⟨bq, off + j, none⟩) hbq).trans hcq
            have hjI : (j : Int) < (i : Int) := by omega
            have hj1 : (j : Int) + 1 ≤ 9223372036854775807 := by omega
            have HJI := hid (And.intro hji hj1)
            obtain ⟨li, hli⟩ : ∃ li, li = (q j).2.1 := ⟨_, rfl⟩
            obtain ⟨ai, hai⟩ : ∃ ai, ai = (q j).1 := ⟨_, rfl⟩
            obtain ⟨ci, hci⟩ : ∃ ci, ci = (q j).2.2 := ⟨_, rfl⟩
            obtain ⟨n, hn⟩ : ∃ n, n = li.length := ⟨_, rfl⟩
            rw [← hli, ← hai, ← hci, ← hn] at cx
            rw [← hli, ← hai] at hby
            have HBY := hid hby
            have HN := hid (show n = li.length ∧ n = (q j).2.1.length ∧ n ≤ 4000 by
              have := HPL.out.2.2 j hji
              rw [← hli, ← hn] at this
              exact ⟨hn, by rw [hn, hli], this⟩)
            have htj : tot q (j + 1) ≤ tot q i := by
              have := tot_mono q (j + 1) (i - (j + 1))
              rwa [show j + 1 + (i - (j + 1)) = i by omega] at this
            have HTJ := hid (show an + n ≤ 24000 by
              have h1 := htj
              have h2 : tot q (j + 1) = tot q j + (q j).2.1.length := rfl
              have h3 := HPL.out
              have h4 := HX.out.2.1
              have h5 := HN.out.2.1
              omega)
            have HA1 := hid (And.intro HK.out.sa.ln HK.out.sb.ln)
            -- the piece's copy
            have hal := (Below.refl _ wr).alloc (Nat.le_refl _) (.cells #[] 5)
            obtain ⟨g, ic, w2, hrun1, hown, hgr, hg⟩ := app_onto (heap_alloc_new wr (.cells #[] 5)) 22 n ci HN.out.1.symm ((HBY.out.below HK.out.be).below hal) (by have := HN.out; omega) (fun _ _ _ _ => trivial)
            have hB2 := hal.grown hgr hal.size (fun k e => by cases e; exact Nat.le_refl _)
            have HK2 := hid (HK.out.below hB2)
            have hgn : wr.heap.size ≤ g := by
              rcases hg with e | e
              · rw [e]; exact Nat.le_refl _
              · rw [e]; exact hal.size
            have hbyc : BytesIn w2 (some ⟨g, 0, none⟩) li := bytes_own (by rw [← HN.out.1]; exact hown)
            have hsrc := src_of (p := p1) (s := s) (d := d) (o := o1) (o' := o1') (os := os') (c := ic) hbyc (by rw [← HN.out.1]; exact own_le hown) (fun b' x e hh => by
              cases e
              have := HK.out.lt g (.inl hh)
              omega)
            have hwr := write_on HK2.out.ww.a li (by rw [← HN.out.1, ← HA1.out.1]; have := HTJ.out; omega) (by
              rw [← HN.out.1]
              exact HK2.out.ww.room rfl n (by rw [← HA1.out.1]; have := HTJ.out; omega) (by rw [← HA1.out.2]; have := HX.out.2.2; omega)) (by
              have h1 := HK2.out.ww.cw
              have h2 := HK2.out.ww.a.good.len
              have h3 := HK2.out.ww.b.good.len
              have h4 : f1.length ≤ f1.length * D.unit := Nat.le_mul_of_pos_right _ HK2.out.ww.a.good.u0
              have h5 : f2.length ≤ f2.length * D.unit := Nat.le_mul_of_pos_right _ HK2.out.ww.a.good.u0
              have h6 := HA1.out
              have h7 := HTJ.out
              have h8 := HX.out.2.2
              rw [← HN.out.1]
              omega) (some ⟨g, 0, none⟩) ic hsrc
            rw [← HN.out.1] at hwr
            have HWR := hid hwr
            clear hi63 hbq hcq hby hli hai hci hn hal hown hgr hg hB2 hgn hbyc hsrc hwr htj hj hji
            go_upto_region 26 with (first | (at_builtin; refine wpList_append_run _ rfl (.tmp 107) (.tmp 108) 22 22 rfl _ _ rfl rfl hrun1 ?_) | (go_at_call 14; refine HWR.out.mono ?_; rintro e w3 ⟨rfl, o3, o3', os3, F3, W3, D3, f3, hw3, hst3, hs3, hcw3, hct3⟩; have HZ := hid (size_any hw3.mem.wt); have hz : W3.size = ((an + n : Nat) : Int) := (by rw [hw3.good.sz, List.length_append, ← HA1.out.1, ← HN.out.1]); rw [hz] at HZ; have hwz : IntKind.i64.wrap ((an : Int) + (n : Int)) = ((an + n : Nat) : Int) := (by have := HTJ.out; rw [show (an : Int) + (n : Int) = ((an + n : Nat) : Int) by omega]; exact wrap_id (by omega) (by omega)); have HST3 := hid (And.intro hw3 (And.intro hst3 (And.intro hs3 (And.intro hcw3 hct3)))); clear hw3 hst3 hs3 hcw3 hct3 hz) | (go_at_call 24; refine HZ.out.mono ?_; rintro e w4 ⟨rfl, h4⟩; rw [h4]; clear h4 w4))
            obtain ⟨hw3, hst3, hs3, hcw3, hct3⟩ := HST3.out
            obtain ⟨z1, z2, z3, z4, z5⟩ := HK2.out.write hw3 hst3 hs3 hcw3 hct3
            obtain ⟨a', c', w5, hrun2, hk5⟩ := bk_take z1 z2 z3 HK2.out.ab z4 z5 HK2.out.nv (c := ci) HN.out.1.symm (HBY.out.below z4) (by have := HTJ.out; omega)
            have HUN := hid (hs3.un.trans HX.out.1)
            have HCI3 := hid (hs3.ci.trans HX.out.2.2.2)
            obtain ⟨N, hNe⟩ : ∃ N, N = an + n := ⟨_, rfl⟩
            rw [← hNe] at hk5 hrun2
            have HNE := hid hNe
            have HK5 := hid hk5
            obtain ⟨k2, hk2⟩ : ∃ k2, k2 = j % 2 := ⟨_, rfl⟩
            have hmod : (j : Int).tmod 2 = (k2 : Int) := by rw [hk2]; exact Int.ofNat_tmod j 2
            have hwk : IntKind.i64.wrap (k2 : Int) = (k2 : Int) := wrap_id (by omega) (by omega)
            clear cx hrun1 hw3 hst3 hs3 hcw3 hct3 z1 z2 z3 z4 z5 hk5 hwz HZ HST3 HK2 hNe hk2 HWR
            go_upto_if 127 with (at_builtin; refine wpList_append_run _ rfl (.tmp 122) (.tmp 123) 22 22 rfl _ _ rfl rfl hrun2 ?_)
            clear hrun2 hmod hwk hj1 hjI
            go_cut [16, 17, 101] (fun s16 s17 s101 wx => s16 = .slice a' N c' ∧ s101 = .int .i64 (j : Int) ∧ ∃ (os4 : Option Nat) (F4 : Int → Bool) (D4 : Dv) (o4 o4' : Option Nat) (W4 : Wt) (b4 : List Int) (f4 : List Nat) (bv4 : Option Addr) (bn4 bc4 : Nat), s17 = .slice bv4 bn4 bc4 ∧ Hid (BK w wx d s os4 F4 D4 p1 o3 o3' W3 (a1 ++ li) f3 p2 o4 o4' W4 b4 f4 a' N c' bv4 bn4 bc4) ∧ Hid (D4.unit = U ∧ bn4 ≤ 21000 ∧ D4.ci = 0))
            case first =>
              by_cases hk0 : k2 = 0
              · subst hk0
                have hal := (Below.refl _ w5).alloc (Nat.le_refl _) (.cells #[] 5)
                obtain ⟨g, ic, w6, hrun1, hown, hgr, hg⟩ := app_onto (heap_alloc_new w5 (.cells #[] 5)) 22 L2 cap2 HL2.out.symm ((HO.out.below HK5.out.be).below hal) (by have := HU.out; omega) (fun _ _ _ _ => trivial)
                have hB2 := hal.grown hgr hal.size (fun k e => by cases e; exact Nat.le_refl _)
                have HK6 := hid (HK5.out.below hB2).swap
                have HA6 := hid (And.intro HK6.out.sa.ln HK6.out.sb.ln)
                have hgn : w5.heap.size ≤ g := by
                  rcases hg with e | e
                  · rw [e]; exact Nat.le_refl _
                  · rw [e]; exact hal.size
                have hbyc : BytesIn w6 (some ⟨g, 0, none⟩) l2 := bytes_own (by rw [← HL2.out]; exact hown)
                have hsrc := src_of (p := p2) (s := s) (d := d) (o := o2) (o' := o2') (os := os3) (c := ic) hbyc (by rw [← HL2.out]; exact own_le hown) (fun b' x e hh => by
                  cases e
                  have := HK5.out.swap.lt g (.inl hh)
                  omega)
                have hwr := write_on HK6.out.ww.a l2 (by rw [← HL2.out, ← HA6.out.1]; have := HX.out.2.2; have := HU.out; omega) (by
                  rw [← HL2.out]
                  exact HK6.out.ww.room rfl L2 (by rw [← HA6.out.1]; have := HX.out.2.2; have := HU.out; omega) (by rw [← HA6.out.2]; have := HTJ.out; have := HNE.out; omega)) (by
                  have h1 := HK6.out.ww.cw
                  have h2 := HK6.out.ww.a.good.len
                  have h3 := HK6.out.ww.b.good.len
                  have h4 : f2.length ≤ f2.length * D3.unit := Nat.le_mul_of_pos_right _ HK6.out.ww.a.good.u0
                  have h5 : f3.length ≤ f3.length * D3.unit := Nat.le_mul_of_pos_right _ HK6.out.ww.a.good.u0
                  have h6 := HA6.out
                  have h7 := HTJ.out
                  have h8 := HX.out.2.2
                  have h9 := HNE.out
                  have h10 := HU.out
                  rw [← HL2.out]
                  omega) (some ⟨g, 0, none⟩) ic hsrc
                rw [← HL2.out] at hwr
                have HWR := hid hwr
                clear hal hown hgr hg hB2 hgn hbyc hsrc hwr
                go_upto_region 30 with (first | (at_builtin; refine wpList_append_run _ rfl (.tmp 129) (.tmp 130) 22 22 rfl _ _ rfl rfl hrun1 ?_) | (go_at_call 14; refine HWR.out.mono ?_; rintro e w7 ⟨rfl, o4, o4', os4, F4, W4, D4, f4, hw4, hst4, hs4, hcw4, hct4⟩))
                obtain ⟨z1, z2, z3, z4, z5⟩ := HK6.out.write hw4 hst4 hs4 hcw4 hct4
                obtain ⟨b', bc', w8, hrun2, hk8⟩ := bk_take z1 z2 z3 HK6.out.ab z4 z5 HK6.out.nv (c := cap2) HL2.out.symm (HO.out.below z4) (by have := HX.out.2.2; have := HU.out; omega)
                have HU4 := hid (show D4.unit = U ∧ bn + L2 ≤ 21000 ∧ D4.ci = 0 from ⟨hs4.un.trans HUN.out, by have := HX.out.2.2; have := HU.out; omega, hs4.ci.trans HCI3.out⟩)
                have HK8 := hid hk8.swap
                clear hrun1 hw4 hst4 hs4 hcw4 hct4 z1 z2 z3 z4 z5 hk8 HWR HK6
                go_wp2_with (at_builtin; refine wpList_append_run _ rfl (.tmp 134) (.tmp 135) 22 22 rfl _ _ rfl rfl hrun2 ?_)
                go_meet
                case rel => exact ⟨rfl, rfl, os4, F4, D4, o4, o4', W4, _, f4, b', bn + L2, bc', rfl, HK8, HU4⟩
              · have hkb : ((k2 : Int) == 0) = false := beq_eq_false_iff_ne.mpr (by omega)
                go_wp2_with fail
                go_meet
                case rel => exact ⟨rfl, rfl, os3, F3, D3, o2, o2', W2, b1, f2, bv, bn, bc, rfl, HK5, hid ⟨HUN.out, by have := HX.out.2.2; omega, HCI3.out⟩⟩
            case rest =>
              obtain ⟨rfl, rfl, os4, F4, D4, o4, o4', W4, b4, f4, bv4, bn4, bc4, rfl, HK9, HU9⟩ := hcut
              by_cases hbt : 20000 < bn4
              · have hbtI : (20000 : Int) < (bn4 : Int) := by omega
                go_wp2_with fail
                go_ret
                exact ⟨rfl, HK9.out.be⟩
              · have hbtI : ¬ (20000 : Int) < (bn4 : Int) := by omega
                have HBT := hid (show bn4 ≤ 20000 by omega)
                have hj1 := HJI.out.2
                go_wp2_with fail
                go_roundg (i - (j + 1))
                case measure => have := HJI.out; omega
                case rel => exact ⟨j + 1, os4, F4, D4, o3, o3', W3, _, f3, o4, o4', W4, b4, f4, a', N, c', bv4, bn4, bc4, rfl, HJI.out.1, rfl, rfl, by go_num, HK9, hid ⟨HU9.out.1, by rw [HNE.out, HX.out.2.1, HN.out.2.1]; rfl, HBT.out, HU9.out.2.2⟩⟩
          · have hje : ¬ (j : Int) < (i : Int) := by omega
            have hj' : j = i := by omega
            have HANB := hid (show an ≤ 24000 ∧ bn ≤ 20000 by
              have h1 := HX.out.2.1
              have h2 := HPL.out.1
              have h3 := HPL.out.2.1
              rw [hj'] at h1
              exact ⟨by omega, HX.out.2.2.1⟩)
            clear hj hji hj'
            go_upto_region 34 with fail
            have hla := HK.out.sa.ln
            have hlb := HK.out.sb.ln
            have HLN := hid (And.intro hla hlb)
            have hcl := close_on HK.out.ww.a (by rw [← hla]; have := HANB.out; omega)
            have HCL := hid hcl
            clear hcl hla hlb
            go_upto_region 35 with (go_at_call 16; refine HCL.out.mono ?_; rintro e w4 ⟨v4, o3, o3', os3, W3, D3, rfl, hv4, hvn4, hw4, hst4, hr4, hz4, hnf4, hml4, hs4, hfg4, hcw4⟩; rw [← HLN.out.1]; have HV4 := hid hv4; obtain ⟨nb1, hnb1⟩ : ∃ nb1, nb1 = W1.blocks.length := ⟨_, rfl⟩; have HNB1 := hid hnb1; rw [← hnb1] at hv4; clear hnb1; obtain ⟨x4, y4, rfl⟩ := own_slc hv4)
            have HC4 := hid (And.intro hvn4 (And.intro hw4 (And.intro hst4 (And.intro hnf4 (And.intro hml4 (And.intro hs4 (And.intro hfg4 hcw4)))))))
            clear hv4 hvn4 hw4 hst4 hr4 hz4 hnf4 hml4 hs4 hfg4 hcw4 HCL
            have hal := (Below.refl _ w4).alloc (Nat.le_refl _) (.cells #[.slice x4 nb1 y4, .int .i64 (an : Int)] 39)
            have X5 := heap_alloc_new w4 (.cells #[.slice x4 nb1 y4, .int .i64 (an : Int)] 39)
            obtain ⟨w5, hw5⟩ : ∃ w5, w4.alloc (.cells #[.slice x4 nb1 y4, .int .i64 (an : Int)] 39) = w5 := ⟨_, rfl⟩
            obtain ⟨t20, ht20⟩ : ∃ t20, t20 = w4.heap.size := ⟨_, rfl⟩
            rw [hw5] at hal X5
            rw [← ht20] at X5
            rw [hw5, ← ht20]
            obtain ⟨hvn4, hw4, hst4, hnf4, hml4, hs4, hfg4, hcw4⟩ := HC4.out
            have hcwb : 0 ≤ D3.cw ∧ D3.cw ≤ 1000000000 := by
              have h1 := HK.out.ww.cw
              have h2 := HK.out.ww.b.good.len
              have h3 : f2.length ≤ f2.length * D.unit := Nat.le_mul_of_pos_right _ HK.out.ww.a.good.u0
              have h4 := HLN.out
              have h5 := HANB.out
              have h6 := (need_le (s := a1.length) (u := D3.unit) (by rw [hs4.un]; exact HK.out.ww.a.good.u0)).2
              have h7 := hfg4.ln
              omega
            have hb4 : WOn w4 p2 s d o2 o2' os3 4096 F W2 D3 b1 f2 := HK.out.ww.b.other hst4 (fun k hk hk' => HK.out.ww.ap k hk' hk) hw4 hs4 hnf4 hml4 (fun b hb hb' => HK.out.ww.dj b hb' hb) hcwb.1 hcwb.2
            have HB5 := hid (hb4.below hal)
            have hT : ∀ k, k < wr.heap.size → AS d s os3 p1 o3 o3' p2 o2 o2' k → AS d s os' p1 o1 o1' p2 o2 o2' k := fun k hk hh => hh.imp (allS_heir hst4.h1 hst4.h2 hst4.h3 k hk) id
            have hU4 : Upd (AS d s os' p1 o1 o1' p2 o2 o2') wr w4 := hst4.up.mono fun k _ hh => .inl hh
            have HSA5 := hid ((HK.out.sa.upd hU4 hT).below hal)
            have HSB5 := hid ((HK.out.sb.upd hU4 hT).below hal)
            have HBE4 := HK.out.be.trans (hU4.below (B := w.heap.size) HK.out.be.size HK.out.nw)
            have HBE5 := hid (HBE4.trans (hal.mono HBE4.size))
            have HNW5 : Hid (∀ k, AS d s os3 p1 o3 o3' p2 o2 o2' k → w.heap.size ≤ k) := hid (fun k hk => by
              by_cases hlt : k < wr.heap.size
              · exact HK.out.nw k (hT k hlt hk)
              · have := HK.out.be.size
                omega)
            have hvlt : ∀ k, (Value.slice x4 nb1 y4).ownBlock = some k → k < w4.heap.size := own_ltX HV4.out
            have HF5 : Hid (w5.ownsRow 0 3 1 (.slice x4 nb1 y4) W1.blocks.length (cellsN W1.blocks) ∧ (∀ k, (Value.slice x4 nb1 y4).ownBlock = some k → k < w5.heap.size ∧ ¬ AS d s os3 p1 o3 o3' p2 o2 o2' k) ∧ ¬ AS d s os3 p1 o3 o3' p2 o2 o2' t20 ∧ w5.heap[t20]? = some (.cells #[.slice x4 nb1 y4, .int .i64 (an : Int)] 39 (0, 0))) := hid ⟨own_same HV4.out fun k hk => hal.block k (hvlt k hk), fun k hk => ⟨Nat.lt_of_lt_of_le (hvlt k hk) hal.size, fun hh => hh.elim (hvn4 k hk).2 fun h => by
              have h1 := HK.out.ww.b.mem.wt.lt k h
              have h2 := (hvn4 k hk).1
              omega⟩, fun hh => hh.elim (fun h => by have := hw4.lt t20 h; omega) fun h => by
              have h1 := hb4.mem.wt.lt t20 h
              omega, X5⟩
            clear hal X5 hw5 ht20 hb4 hT hU4 HBE4 hvlt hvn4 hw4 hst4 hnf4 hml4 hs4 hfg4 hcw4 hcwb
            have hcl := close_on HB5.out (by rw [← HLN.out.2]; have := HANB.out; omega)
            have HCL := hid hcl
            clear hcl
            go_upto_region 36 with (go_at_call 16; refine HCL.out.mono ?_; rintro e w6 ⟨v6, o4, o4', os4, W4, D4, rfl, hv6, hvn6, hw6, hst6, hr6, hz6, hnf6, hml6, hs6, hfg6, hcw6⟩; rw [← HLN.out.2]; have HV6 := hid hv6; obtain ⟨nb2, hnb2⟩ : ∃ nb2, nb2 = W2.blocks.length := ⟨_, rfl⟩; have HNB2 := hid hnb2; rw [← hnb2] at hv6; clear hnb2; obtain ⟨x6, y6, rfl⟩ := own_slc hv6)
            have hal := (Below.refl _ w6).alloc (Nat.le_refl _) (.cells #[.slice x6 nb2 y6, .int .i64 (bn : Int)] 39)
            have X7 := heap_alloc_new w6 (.cells #[.slice x6 nb2 y6, .int .i64 (bn : Int)] 39)
            obtain ⟨w7, hw7⟩ : ∃ w7, w6.alloc (.cells #[.slice x6 nb2 y6, .int .i64 (bn : Int)] 39) = w7 := ⟨_, rfl⟩
            obtain ⟨t22, ht22⟩ : ∃ t22, t22 = w6.heap.size := ⟨_, rfl⟩
            rw [hw7] at hal X7
            rw [← ht22] at X7
            rw [hw7, ← ht22]
            obtain ⟨hvn4, hw4, hst4, hnf4, hml4, hs4, hfg4, hcw4⟩ := HC4.out
            have hU6 : Upd (AS d s os3 p1 o3 o3' p2 o2 o2') w5 w6 := hst6.up.mono fun k _ hh => AS.swap (.inl hh)
            have hnd : ∀ k, k < w5.heap.size → ¬ AS d s os3 p1 o3 o3' p2 o2 o2' k → k < w6.heap.size ∧ ¬ d.S k := fun k hk hn => ⟨Nat.lt_of_lt_of_le hk hst6.up.size, fun hd => hn (.inl (.inr (.inl hd)))⟩
            have HKP : Hid (∀ k, k < w5.heap.size → ¬ AS d s os3 p1 o3 o3' p2 o2 o2' k → w7.heap[k]? = w5.heap[k]? ∧ k < w7.heap.size ∧ ¬ d.S k) := hid (fun k hk hn => ⟨(hal.block k (hnd k hk hn).1).trans (hU6.block k hk hn), Nat.lt_of_lt_of_le (hnd k hk hn).1 hal.size, (hnd k hk hn).2⟩)
            have hvlt : ∀ k, (Value.slice x6 nb2 y6).ownBlock = some k → k < w6.heap.size := own_ltX HV6.out
            -- what lies beside the device
            have HRA : Hid (w7.ownsRow 0 5 1 (.slice av an ac) an (cellsB a1) ∧ ∀ k, (Value.slice av an ac).ownBlock = some k → k < w7.heap.size ∧ ¬ d.S k) := hid ⟨own_same HSA5.out.ow fun k hk => (HKP.out k (HSA5.out.lt k hk) (HSA5.out.ne k hk)).1, fun k hk => (HKP.out k (HSA5.out.lt k hk) (HSA5.out.ne k hk)).2⟩
            have HRB : Hid (w7.ownsRow 0 5 1 (.slice bv bn bc) bn (cellsB b1) ∧ ∀ k, (Value.slice bv bn bc).ownBlock = some k → k < w7.heap.size ∧ ¬ d.S k) := hid ⟨own_same HSB5.out.ow fun k hk => (HKP.out k (HSB5.out.lt k hk) (HSB5.out.ne k hk)).1, fun k hk => (HKP.out k (HSB5.out.lt k hk) (HSB5.out.ne k hk)).2⟩
            have HR4 : Hid (w7.ownsRow 0 3 1 (.slice x4 nb1 y4) W1.blocks.length (cellsN W1.blocks) ∧ ∀ k, (Value.slice x4 nb1 y4).ownBlock = some k → k < w7.heap.size ∧ ¬ d.S k) := hid ⟨own_same HF5.out.1 fun k hk => (HKP.out k (HF5.out.2.1 k hk).1 (HF5.out.2.1 k hk).2).1, fun k hk => (HKP.out k (HF5.out.2.1 k hk).1 (HF5.out.2.1 k hk).2).2⟩
            have HR6 : Hid (w7.ownsRow 0 3 1 (.slice x6 nb2 y6) W2.blocks.length (cellsN W2.blocks) ∧ ∀ k, (Value.slice x6 nb2 y6).ownBlock = some k → k < w7.heap.size ∧ ¬ d.S k) := hid ⟨own_same HV6.out fun k hk => hal.block k (hvlt k hk), fun k hk => ⟨Nat.lt_of_lt_of_le (hvlt k hk) hal.size, fun hd => (hvn6 k hk).2 (.inr (.inl hd))⟩⟩
            have HT20 : Hid (w7.heap[t20]? = some (.cells #[.slice x4 nb1 y4, .int .i64 (an : Int)] 39 (0, 0)) ∧ ¬ d.S t20) := hid ⟨(HKP.out t20 (blk_lt HF5.out.2.2.2) HF5.out.2.2.1).1.trans HF5.out.2.2.2, (HKP.out t20 (blk_lt HF5.out.2.2.2) HF5.out.2.2.1).2.2⟩
            have HT22 : Hid (w7.heap[t22]? = some (.cells #[.slice x6 nb2 y6, .int .i64 (bn : Int)] 39 (0, 0)) ∧ ¬ d.S t22) := hid ⟨X7, fun hd => by have := hw6.dv.lt t22 hd; omega⟩
            have HDV := hid (hw6.dv.below hal)
            have HSP := hid (hw6.sp.below hal)
            have hbe6 := HBE5.out.trans (hU6.below (B := w.heap.size) HBE5.out.size HNW5.out)
            have HBE7 := hid (hbe6.trans (hal.mono hbe6.size))
            have HFG1 : Hid (FG D4 W1.blocks a1) := hid (hfg4.keep hs6.un hs6.sc fun b hb => hs6.kp b (hfg4.bs b hb) (HK.out.ww.dj b hb))
            have HFG2 := hid hfg6
            have HND := hid (show ∀ k, d.S k → w.heap.size ≤ k from fun k hk => HNW5.out k (.inl (.inr (.inl hk))))
            have HNUM : Hid (NoF D4 ∧ D4.unit = U ∧ D4.cs = 0 ∧ D4.ci = 0 ∧ D4.cw = (nb1 : Int) + (nb2 : Int) ∧ cntB F 4096 = 4096 - (nb1 : Int) - (nb2 : Int) ∧ nb1 = (an + U - 1) / U ∧ nb2 = (bn + U - 1) / U) := hid (by
              have hu0 : 0 < U := by have := HU.out; omega
              have hu4 : D4.unit = U := hs6.un.trans (hs4.un.trans HX.out.1)
              have h1 := HK.out.ww.cw
              have h2 := HK.out.ww.ct
              have h3 := HNB1.out
              have h4 := HNB2.out
              have h5 := HLN.out
              refine ⟨hnf6, hu4, by rw [hs6.cs, hs4.cs, HK.out.ww.cs], ?_, by omega, by omega, ?_, ?_⟩
              · rw [hs6.ci, hs4.ci, HX.out.2.2.2]
              · rw [h3, hfg4.ln, hs4.un, HX.out.1, ← h5.1, need_ceil hu0]
              · rw [h4, hfg6.ln, hu4, ← h5.2, need_ceil hu0])
            clear hal X7 hw7 ht22 hvn4 hw4 hst4 hnf4 hml4 hs4 hfg4 hcw4 hU6 hnd hvlt hbe6 hv6 hvn6 hw6 hst6 hr6 hz6 hnf6 hml6 hs6 hfg6 hcw6 HCL HC4 HKP HK HB5 HSA5 HSB5 HNW5 HF5 HBE5 HV4 HV6
            have hn7 := HNUM.out
            have hab := HANB.out
            have hu := HU.out
            obtain ⟨A1, hA1⟩ : ∃ A1, A1 = an + U := ⟨_, rfl⟩
            obtain ⟨A2, hA2⟩ : ∃ A2, A2 = an + U - 1 := ⟨_, rfl⟩
            obtain ⟨B1, hB1⟩ : ∃ B1, B1 = bn + U := ⟨_, rfl⟩
            obtain ⟨B2, hB2⟩ : ∃ B2, B2 = bn + U - 1 := ⟨_, rfl⟩
            have e1 : IntKind.i64.wrap ((an : Int) + (U : Int)) = (A1 : Int) := by
              rw [show (an : Int) + (U : Int) = (A1 : Int) by omega]
              exact wrap_id (by omega) (by omega)
            have e2 : IntKind.i64.wrap ((A1 : Int) - 1) = (A2 : Int) := by
              rw [show (A1 : Int) - 1 = (A2 : Int) by omega]
              exact wrap_id (by omega) (by omega)
            have e3 : (A2 : Int).tdiv (U : Int) = (nb1 : Int) := by rw [hn7.2.2.2.2.2.2.1, ← hA2]; exact Int.ofNat_tdiv A2 U
            have e4 : IntKind.i64.wrap ((bn : Int) + (U : Int)) = (B1 : Int) := by
              rw [show (bn : Int) + (U : Int) = (B1 : Int) by omega]
              exact wrap_id (by omega) (by omega)
            have e5 : IntKind.i64.wrap ((B1 : Int) - 1) = (B2 : Int) := by
              rw [show (B1 : Int) - 1 = (B2 : Int) by omega]
              exact wrap_id (by omega) (by omega)
            have e6 : (B2 : Int).tdiv (U : Int) = (nb2 : Int) := by rw [hn7.2.2.2.2.2.2.2, ← hB2]; exact Int.ofNat_tdiv B2 U
            have hbd1 : nb1 ≤ A2 := by rw [hn7.2.2.2.2.2.2.1, ← hA2]; exact Nat.div_le_self _ _
            have hbd2 : nb2 ≤ B2 := by rw [hn7.2.2.2.2.2.2.2, ← hB2]; exact Nat.div_le_self _ _
            have HNBB := hid (show nb1 ≤ 30000 ∧ nb2 ≤ 30000 by omega)
            have e7 : IntKind.i64.wrap (nb1 : Int) = (nb1 : Int) := wrap_id (by omega) (by omega)
            have e8 : IntKind.i64.wrap (nb2 : Int) = (nb2 : Int) := wrap_id (by omega) (by omega)
            have hU0 : ¬ (U : Int) = 0 := by omega
            have hU0n : ¬ U = 0 := by omega
            have hU0b : ((U : Int) == 0) = false := beq_eq_false_iff_ne.mpr hU0
            have hU0m : ¬ (U : Int) = -1 := by omega
            have c0 : w7.cell? ⟨t20, 0, none⟩ = some (.slice x4 nb1 y4) := (blk_cell HT20.out.1 0).trans rfl
            have c1 : w7.cell? ⟨t20, 1, none⟩ = some (.int .i64 (an : Int)) := (blk_cell HT20.out.1 1).trans rfl
            have c2 : w7.cell? ⟨t22, 0, none⟩ = some (.slice x6 nb2 y6) := (blk_cell HT22.out.1 0).trans rfl
            have c3 : w7.cell? ⟨t22, 1, none⟩ = some (.int .i64 (bn : Int)) := (blk_cell HT22.out.1 1).trans rfl
            clear hn7 hab hu hA1 hA2 hB1 hB2 hbd1 hbd2
            go_still (by kernel_rfl)
            generalize hwd : ({ heap := w7.heap, tape := w7.tape, drawn := w7.drawn + 1, os := w7.os, output := w7.output } : World) = w8
            have h78 : Below w7.heap.size w7 w8.drew := by rw [← hwd]; exact (Below.refl _ w7).drew.drew
            have hnu := HNUM.out
            have hnb := HNBB.out
            obtain ⟨ck, hck⟩ : ∃ ck, ck = D4.ck := ⟨_, rfl⟩
            have hct := counts_any (HDV.out.below h78)
            rw [hnu.2.2.1, hnu.2.2.2.1, hnu.2.2.2.2.1, ← hck] at hct
            have HCT := hid hct
            have hf2 := field_cnt2b 0 0 ((nb1 : Int) + (nb2 : Int)) ck
            have hw12 : IntKind.i64.wrap ((nb1 : Int) + (nb2 : Int)) = (nb1 : Int) + (nb2 : Int) := wrap_id (by omega) (by omega)
            have hw13 : IntKind.i64.wrap (4096 - (nb1 : Int)) = 4096 - (nb1 : Int) := wrap_id (by omega) (by omega)
            have hw14 : IntKind.i64.wrap (4096 - (nb1 : Int) - (nb2 : Int)) = 4096 - (nb1 : Int) - (nb2 : Int) := wrap_id (by omega) (by omega)
            have d0 : w8.cell? ⟨t20, 0, none⟩ = some (.slice x4 nb1 y4) := by rw [← hwd]; exact c0
            have d2 : w8.cell? ⟨t22, 0, none⟩ = some (.slice x6 nb2 y6) := by rw [← hwd]; exact c2
            have H78 := hid h78
            have HTL := hid (And.intro (blk_lt HT20.out.1) (blk_lt HT22.out.1))
            clear e1 e2 e3 e4 e5 e6 e7 e8 hwd h78 hnu hnb hck hct c0 c1 c2 c3
            go_upto_region 38 with fail
            go_region_held3 (fun W' : World => W'.cell? ⟨t20, 0, none⟩ = some (.slice x4 nb1 y4) ∧ W'.cell? ⟨t22, 0, none⟩ = some (.slice x6 nb2 y6)) (go_keep) (first | (go_at_call 22; refine HCT.out.mono ?_; rintro e w9 ⟨rfl, hb9⟩; have h79 := H78.out.trans (hb9.mono H78.out.size); have f0 : w9.cell? ⟨t20, 0, none⟩ = some (.slice x4 nb1 y4) := (blk_cell ((h79.block t20 HTL.out.1).trans HT20.out.1) 0).trans rfl; have f2 : w9.cell? ⟨t22, 0, none⟩ = some (.slice x6 nb2 y6) := (blk_cell ((h79.block t22 HTL.out.2).trans HT22.out.1) 0).trans rfl; have hlf := leftF_any (HSP.out.below h79); rw [HNUM.out.2.2.2.2.2.1] at hlf; have HLF := hid hlf; have H79 := hid h79; clear hlf h79 hb9) | (go_at_call 25; refine HLF.out.mono ?_; rintro e w10 ⟨rfl, hb10⟩; have h710 := H79.out.trans (hb10.mono H79.out.size); have g0 : w10.cell? ⟨t20, 0, none⟩ = some (.slice x4 nb1 y4) := (blk_cell ((h710.block t20 HTL.out.1).trans HT20.out.1) 0).trans rfl; have g2 : w10.cell? ⟨t22, 0, none⟩ = some (.slice x6 nb2 y6) := (blk_cell ((h710.block t22 HTL.out.2).trans HT22.out.1) 0).trans rfl; have H710 := hid h710; clear h710 hb10))
            all_goals
              clear hw12 hw13 hw14 hf2 HCT HLF
              have g1 : w10.cell? ⟨t20, 1, none⟩ = some (.int .i64 (an : Int)) := (blk_cell ((H710.out.block t20 HTL.out.1).trans HT20.out.1) 1).trans rfl
              have hop := open_on (HDV.out.below H710.out) HNUM.out.1 (own_same HR4.out.1 fun k hk => H710.out.block k (HR4.out.2 k hk).1) HFG1.out (by rw [← HLN.out.1]; have := HANB.out; omega)
              rw [← HLN.out.1] at hop
              have HOP := hid hop
              clear hop
              go_upto_region 41 with (go_at_call 17; refine HOP.out.mono ?_; rintro e w11 ⟨pr, oc, rfl, hr11, hpr, hoc, hb11⟩)
              have HR11 := hid hr11
              have HB11 := hid hb11
              have HPR := hid (And.intro hpr hoc)
              have H711 := hid (H710.out.trans (hb11.mono H710.out.size))
              have k0 : w11.cell? ⟨t22, 0, none⟩ = some (.slice x6 nb2 y6) := (blk_cell ((H711.out.block t22 HTL.out.2).trans HT22.out.1) 0).trans rfl
              have k1 : w11.cell? ⟨t22, 1, none⟩ = some (.int .i64 (bn : Int)) := (blk_cell ((H711.out.block t22 HTL.out.2).trans HT22.out.1) 1).trans rfl
              have hop := open_on hr11.mem.dv HNUM.out.1 (own_same HR6.out.1 fun k hk => H711.out.block k (HR6.out.2 k hk).1) HFG2.out (by rw [← HLN.out.2]; have := HANB.out; omega)
              rw [← HLN.out.2] at hop
              have HOP2 := hid hop
              clear hop hr11 hpr hoc hb11 HOP g0 g1 g2
              go_upto_region 44 with (go_at_call 17; refine HOP2.out.mono ?_; rintro e w12 ⟨pq, oq, rfl, hq12, hpq, hoq, hb12⟩)
              have HQ12 := hid hq12
              have HR12 := hid (HR11.out.below hb12)
              have HPQ := hid (And.intro hpq (And.intro hoq (And.intro (HR11.out.mem.rd.lt pr (.inl rfl)) (HR11.out.mem.rd.lt oc (.inr (.inl rfl))))))
              have H712 := hid (H711.out.trans (hb12.mono H711.out.size))
              have HS12 := hid (And.intro H710.out.size (And.intro HB11.out.size hb12.size))
              clear hq12 hpq hoq hb12 HOP2 k0 k1 HR11
              have hrd := read_on HR12.out (by unfold cOk; rw [HNUM.out.2.2.1, HNUM.out.2.2.2.1]; omega) 65536 (by omega)
              have HRD := hid hrd
              clear hrd
              go_upto_region 45 with (go_at_call 19; refine HRD.out.mono ?_; rintro e w13 ⟨vr, or1, R5, D5, rfl, hvr, hvrn, hr13, hst13, hps13, hsz13, hch13, hrs13⟩; have ha1 : (a1.drop 0).take 65536 = a1 := (by rw [List.drop_zero]; exact List.take_of_length_le (by rw [← HLN.out.1]; have := HANB.out; omega)); have hvr' : w13.ownsRow w12.heap.size 5 1 vr an (cellsB a1) := (by have z := hvr; rw [show (⟨D4.unit, some W1.blocks, a1.length, 0, -1, [], 0⟩ : Rd).pos = 0 from rfl, ha1, ← HLN.out.1] at z; exact z); obtain ⟨xr, yr, rfl⟩ := own_slc hvr')
              have hu0 : 0 < U := by have := HU.out; omega
              have hp5 : R5.pos = an := by
                rw [hps13]
                show 0 + min 65536 (a1.length - 0) = an
                have := HLN.out.1
                have := HANB.out
                omega
              have hcs5 : D5.cs = (nb1 : Int) := by
                have z := hrs13.cs
                rw [hp5, HNUM.out.2.1, HNUM.out.2.2.1] at z
                have z2 := hd_need (U := U) (L := an) hu0
                have z3 := need_ceil (a := an) hu0
                have z4 := HNUM.out.2.2.2.2.2.2.1
                have z5 : hd U 0 = -1 := rfl
                rw [z5] at z
                simp only [Option.isSome_some, if_true] at z
                omega
              have hci5 : D5.ci = 0 := by
                have z := hrs13.ci
                simp only [Option.isSome_some, if_true] at z
                rw [z, HNUM.out.2.2.2.1]
                rfl
              have hpq := HPQ.out
              have hpr := HPR.out
              have hs12 := HS12.out
              have hq13 := HQ12.out.other hst13 (fun k hk hk' => by
                rcases hk with e | e | e
                · rcases hk' with e' | e' | e'
                  · omega
                  · cases e'; omega
                  · cases e'
                · cases e
                  rcases hk' with e' | e' | e'
                  · omega
                  · cases e'; omega
                  · cases e'
                · cases e) hrs13 hr13.mem.dv
              have HQ13 := hid hq13
              have HST13 := hid hst13
              have HRS13 := hid (And.intro (hrs13.un.trans HNUM.out.2.1) (And.intro hcs5 hci5))
              have HVR := hid hvr'
              have hnb := HNBB.out
              have hrd := read_on hq13 (by unfold cOk; rw [hcs5, hci5]; omega) 65536 (by omega)
              have HRD2 := hid hrd
              clear hvr hvrn hr13 hst13 hps13 hsz13 hch13 hrs13 ha1 hvr' hp5 hcs5 hci5 hq13 hrd hnb hpq hpr hs12 HRD hu0
              go_upto_region 46 with (go_at_call 19; refine HRD2.out.mono ?_; rintro e w14 ⟨vq, oq1, R6, D6, rfl, hvq, hvqn, hr14, hst14, hps14, hsz14, hch14, hrs14⟩; have hb1 : (b1.drop 0).take 65536 = b1 := (by rw [List.drop_zero]; exact List.take_of_length_le (by rw [← HLN.out.2]; have := HANB.out; omega)); have hvq' : w14.ownsRow w13.heap.size 5 1 vq bn (cellsB b1) := (by have z := hvq; rw [show (⟨D4.unit, some W2.blocks, b1.length, 0, -1, [], 0⟩ : Rd).pos = 0 from rfl, hb1, ← HLN.out.2] at z; exact z); obtain ⟨xq, yq, rfl⟩ := own_slc hvq')
              have hu0 : 0 < U := by have := HU.out; omega
              have hp6 : R6.pos = bn := by
                rw [hps14]
                show 0 + min 65536 (b1.length - 0) = bn
                have := HLN.out.2
                have := HANB.out
                omega
              have hcs6 : D6.cs = (nb1 : Int) + (nb2 : Int) := by
                have z := hrs14.cs
                rw [hp6, HRS13.out.1, HRS13.out.2.1] at z
                have z2 := hd_need (U := U) (L := bn) hu0
                have z3 := need_ceil (a := bn) hu0
                have z4 := HNUM.out.2.2.2.2.2.2.2
                have z5 : hd U 0 = -1 := rfl
                rw [z5] at z
                simp only [Option.isSome_some, if_true] at z
                omega
              have hpq := HPQ.out
              have hpr := HPR.out
              have hs12 := HS12.out
              have h712 := H712.out.size
              have hs13 := HST13.out.up.size
              have hkeep : ∀ k, k < w7.heap.size → ¬ d.S k → w14.heap[k]? = w7.heap[k]? := fun k hk hn => by
                have k12 : k < w12.heap.size := by omega
                rw [hst14.up.block k (by omega) (fun hh => by
                  rcases hh with (e | e | e) | e
                  · omega
                  · cases e; omega
                  · cases e
                  · exact hn e), HST13.out.up.block k k12 (fun hh => by
                  rcases hh with (e | e | e) | e
                  · omega
                  · cases e; omega
                  · cases e
                  · exact hn e)]
                exact H712.out.block k hk
              have hvr14 : w14.ownsRow w12.heap.size 5 1 (.slice xr an yr) an (cellsB a1) := own_same HVR.out fun k hk => hst14.up.block k (own_ltX HVR.out k hk) fun hh => by
                have hge : w12.heap.size ≤ k := by
                  rcases HVR.out.2 with ⟨z, _⟩ | ⟨g, cap', cur, z, hg, _⟩
                  · rw [z] at hk; cases hk
                  · rw [z] at hk; cases hk; exact hg
                have hq1 := HQ12.out.mem.rd.lt pq (.inl rfl)
                have hq2 := HQ12.out.mem.rd.lt oq (.inr (.inl rfl))
                rcases hh with (e | e | e) | e
                · omega
                · cases e; omega
                · cases e
                · have := HDV.out.lt k e
                  omega
              have hra := own_same HRA.out.1 fun k hk => hkeep k (HRA.out.2 k hk).1 (HRA.out.2 k hk).2
              have hrb := own_same HRB.out.1 fun k hk => hkeep k (HRB.out.2 k hk).1 (HRB.out.2 k hk).2
              have hdr := (Below.refl w14.heap.size w14).drew
              have hsm1 := same_any (w := w14.drew) ((bytes_own (by rw [← HLN.out.1]; exact hvr14) : BytesIn w14 xr a1).below hdr) ((bytes_own (by rw [← HLN.out.1]; exact hra) : BytesIn w14 av a1).below hdr) (by rw [← HLN.out.1]; have := HANB.out; omega) (by rw [← HLN.out.1]; have := HANB.out; omega) yr ac
              rw [← HLN.out.1, decide_eq_true (Eq.refl a1)] at hsm1
              have hsm2 := same_any (w := w14.drew) ((bytes_own (by rw [← HLN.out.2]; exact hvq') : BytesIn w14 xq b1).below hdr) ((bytes_own (by rw [← HLN.out.2]; exact hrb) : BytesIn w14 bv b1).below hdr) (by rw [← HLN.out.2]; have := HANB.out; omega) (by rw [← HLN.out.2]; have := HANB.out; omega) yq bc
              rw [← HLN.out.2, decide_eq_true (Eq.refl b1)] at hsm2
              have HS1 := hid hsm1
              have HS2 := hid hsm2
              have hct := counts_any (hr14.mem.dv.below hdr)
              rw [hcs6] at hct
              obtain ⟨ci, hci⟩ : ∃ ci, ci = D6.ci := ⟨_, rfl⟩
              obtain ⟨cw, hcw⟩ : ∃ cw, cw = D6.cw := ⟨_, rfl⟩
              obtain ⟨cz, hcz⟩ : ∃ cz, cz = D6.ck := ⟨_, rfl⟩
              rw [← hci, ← hcw, ← hcz] at hct
              have HCT := hid hct
              have hf1 := field_cnt1b ci ((nb1 : Int) + (nb2 : Int)) cw cz
              have hnb := HNBB.out
              have hw12 : IntKind.i64.wrap ((nb1 : Int) + (nb2 : Int)) = (nb1 : Int) + (nb2 : Int) := wrap_id (by omega) (by omega)
              have m20 := (hkeep t20 HTL.out.1 HT20.out.2).trans HT20.out.1
              have m22 := (hkeep t22 HTL.out.2 HT22.out.2).trans HT22.out.1
              have d0 : w14.cell? ⟨t20, 0, none⟩ = some (.slice x4 nb1 y4) := (blk_cell m20 0).trans rfl
              have d2 : w14.cell? ⟨t22, 0, none⟩ = some (.slice x6 nb2 y6) := (blk_cell m22 0).trans rfl
              have M20 := hid (And.intro m20 m22)
              have h12 := HBE7.out.trans (H712.out.mono HBE7.out.size)
              have h13 := h12.trans (HST13.out.up.below (B := w.heap.size) h12.size fun k hk => by
                have := HBE7.out.size
                rcases hk with (e | e | e) | e
                · omega
                · cases e; omega
                · cases e
                · exact HND.out k e)
              have h14 := h13.trans (hst14.up.below (B := w.heap.size) h13.size fun k hk => by
                have := HBE7.out.size
                rcases hk with (e | e | e) | e
                · omega
                · cases e; omega
                · cases e
                · exact HND.out k e)
              have H14 := hid h14.drew
              clear hvq hvqn hr14 hst14 hps14 hsz14 hch14 hrs14 hb1 hvq' hp6 hcs6 hpq hpr hs12 h712 hs13 hkeep hvr14 hra hrb hdr hsm1 hsm2 hct hci hcw hcz hnb m20 m22 h12 h13 h14 hu0 HRD2
              go_region_held3 (fun W' : World => W'.cell? ⟨t20, 0, none⟩ = some (.slice x4 nb1 y4) ∧ W'.cell? ⟨t22, 0, none⟩ = some (.slice x6 nb2 y6)) (go_keep) (first | (go_at_call 15; refine HS1.out.mono ?_; rintro e w15 ⟨rfl, h15⟩; rw [h15]; clear h15 w15 HS1) | (go_at_call 15; refine HS2.out.mono ?_; rintro e w15 ⟨rfl, h15⟩; rw [h15]; clear h15 w15) | (go_at_call 22; refine HCT.out.mono ?_; rintro e w16 ⟨rfl, hb16⟩; have f0 : w16.cell? ⟨t20, 0, none⟩ = some (.slice x4 nb1 y4) := (blk_cell ((hb16.block t20 (blk_lt M20.out.1)).trans M20.out.1) 0).trans rfl; have f2 : w16.cell? ⟨t22, 0, none⟩ = some (.slice x6 nb2 y6) := (blk_cell ((hb16.block t22 (blk_lt M20.out.2)).trans M20.out.2) 0).trans rfl; have HB16 := hid hb16; clear hb16))
              all_goals go_wp2_with fail
              all_goals go_ret
              all_goals exact ⟨by simp, H14.out.trans (HB16.out.mono H14.out.size)⟩
end Go.Proofs.Ytkhejipcclpknaa
