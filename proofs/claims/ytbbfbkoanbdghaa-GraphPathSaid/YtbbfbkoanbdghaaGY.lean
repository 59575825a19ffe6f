/- The walk of GraphPath. No statement is proved here. -/
import Derived.Test.YtbbfbkoanbdghaaGV
import Derived.StillTailTactics
set_option linter.unusedVariables false
set_option linter.unusedSimpArgs false
namespace Go.Proofs.Ytbbfbkoanbdghaa
open Go.RowKit

def TailPost (w : World) (K : Nat) (P : Nat → Nat) (e : Ending) (w' : World) : Prop := ∃ b o c, e = .returned (.slice (some ⟨b, o, none⟩) K c) ∧ (∀ i, i < K → w'.cell? ⟨b, o + i, none⟩ = some (.int .i64 (P (i + 1) : Int))) ∧ b < w'.heap.size ∧ Below w.heap.size w w'
theorem tail_any {B : Nat} {w : World} {g N : Nat} {es : List E} {mb ob bb : Nat} {oc bc : Array Value} {vs : Nat → Value} (h : Gr B w g N es mb ob bb oc bc vs) {x y M : Nat} {mask : Int} {D : Nat → Int} {p : List Nat} {P : Nat → Nat} (hD : IsDist es N mask y D) (hy : y < N)
    (hrun : Run (nxt es N mask D) y x p) (F : RunFacts es N mask y D x p) (hL : p.length = M + 1) (hM : 2 ≤ M) (hP : ∀ i, i < M + 1 → p[i]? = some (P i)) :
    Calls Try.prog 17 #[.pointer (some ⟨g, 0, none⟩), .int .i64 (P 1 : Int), .int .i64 (y : Int), .int .i64 mask] w (TailPost w M P) := by
  obtain ⟨l, rfl, hr, hw, hn⟩ := run_tail hD h.ok hy hrun F (by omega)
  have e1 : nxt es N mask D x = P 1 := Option.some.inj (F.one.symm.trans (hP 1 (by omega)))
  rw [e1] at hr hw hn
  refine (path_any h (P 1 : Int) (y : Int) mask).mono ?_
  rintro e w8 ⟨hB8, ⟨_, hno⟩ | ⟨x', y', v, p', D', d, hx', hy', _, _, rfl, hQ, hD', hrun', _, _⟩⟩
  · exact absurd hw hno
  · obtain rfl : x' = P 1 := by omega
    obtain rfl : y' = y := by omega
    have hll : l.length = M := by simpa using hL
    have hlt : ∀ z ∈ l, z < N := fun z hz => by
      obtain ⟨i, hi, rfl⟩ := List.getElem_of_mem hz
      exact F.all (i + 1) _ (show l[i]? = some l[i] from List.getElem?_eq_getElem hi)
    obtain rfl := run_same hD hD' h.ok hr hrun' hlt
    obtain ⟨b, o, c, rfl, _, hbl, _, hc⟩ := q_iin hQ (fun h0 => by rw [h0] at hll; simp at hll; omega)
    refine ⟨b, o, c, by rw [hll], fun i hi => hc i _ (hP (i + 1) (by omega)), hbl, hB8⟩
set_option maxHeartbeats 16000000 in
set_option maxRecDepth 100000 in
theorem gpath_walk (n : Int) (a : Option Addr) (l : List E) (cap : Nat) (fr to mask : Int) (w : World) (hin : ESl w a l) :
    Calls Try.prog 5 #[.int .i64 n, .slice a l.length cap, .int .i64 fr, .int .i64 to, .int .i64 mask] w fun e w' => e = .returned (.bool true) ∧ Below w.heap.size w w' := by
  have HIN0 := hid hin
  clear hin
  obtain ⟨len0, hl0⟩ : ∃ len, len = l.length := ⟨_, rfl⟩
  rw [← hl0]
  have HL0 := hid hl0
  clear hl0
  by_cases hq0 : n < 1
  · go_enter Try.func5, Try.ntmps5
    go_wp2_with fail
    refine (anchor_any _).mono ?_
    rintro e w1 ⟨rfl, hb1⟩
    go_wp2_with fail
    all_goals go_ret
    all_goals exact ⟨rfl, hb1⟩
  by_cases hq1 : 100 < n
  · go_enter Try.func5, Try.ntmps5
    go_wp2_with fail
    refine (anchor_any _).mono ?_
    rintro e w1 ⟨rfl, hb1⟩
    go_wp2_with fail
    all_goals go_ret
    all_goals exact ⟨rfl, hb1⟩
  by_cases hq2 : 1000 < len0
  · have hq3 : (1000 : Int) < (len0 : Int) := by omega
    go_enter Try.func5, Try.ntmps5
    go_wp2_with fail
    refine (anchor_any _).mono ?_
    rintro e w1 ⟨rfl, hb1⟩
    go_wp2_with fail
    all_goals go_ret
    all_goals exact ⟨rfl, hb1⟩
  obtain ⟨N, rfl⟩ := Int.eq_ofNat_of_zero_le (show 0 ≤ n by omega)
  have hN : N ≤ 100 := by omega
  have hN1 : 1 ≤ N := by omega
  have hb := fun (W : World) (h : ESl W a l) => build_any N (by omega) a l cap W h (by have := HL0.out; omega)
  rw [← HL0.out] at hb
  have HB9 := hid hb
  clear hb
  go_enter Try.func5, Try.ntmps5
  go_wp2_with fail
  refine (anchor_any _).mono ?_
  rintro e w1 ⟨rfl, hb1⟩
  have HB1 := hid hb1
  clear hb1
  go_wp2_with fail
  refine (HB9.out w1 (HIN0.out.below HB1.out)).mono ?_
  rintro e w2 ⟨g, mb, ob, bb, oc, bc, vs, rfl, hG, hB2⟩
  have HG2 := hid hG
  have HB2 := hid (HB1.out.trans (hB2.mono HB1.out.size))
  have hes0 : (buildE N l).length ≤ 65536 := hG.len
  clear hG hB2 HB1 HB9 HIN0 HL0 hq0 hq1 hq2
  obtain ⟨es, hes⟩ : ∃ es, es = buildE N l := ⟨_, rfl⟩
  rw [← hes] at HG2 hes0
  clear hes
  go_wp2_with fail
  refine (edges_any HG2.out).mono ?_
  rintro e w3 ⟨v3, ss, rfl, hp, hso, ho, hn, hB3⟩
  obtain ⟨a3, cap3, rfl, hein, _, _⟩ := own_ein ho
  have HP := hid hp
  have HG3 := hid (HG2.out.below hB3)
  have HB3 := hid (HB2.out.trans (hB3.mono HB2.out.size))
  have hss : ss.length ≤ 65536 := by rw [hp.length_eq]; exact hes0
  have HH := hid (fun (W : World) (hW : Below w3.heap.size w3 W) (x y : Int) => has_any (hein.below hW) (fun e he => (HG3.out.ok e (hp.mem_iff.1 he)).2.2.2.2) (by omega) cap3 x y mask)
  obtain ⟨len3, hl3⟩ : ∃ len, len = ss.length := ⟨_, rfl⟩
  rw [← hl3] at HH hss ⊢
  clear hl3 hp hso ho hn hB3 hein HG2 HB2 hes0
  go_wp2_with fail
  refine (path_any HG3.out fr to mask).mono ?_
  rintro e w4 ⟨hB4, hpost⟩
  have HG4 := hid (HG3.out.below hB4)
  have HB4 := hid (HB3.out.trans (hB4.mono HB3.out.size))
  have H34 := hid hB4
  clear hB4
  rcases hpost with ⟨rfl, hnw⟩ | ⟨x, y, v, p, D, d, rfl, rfl, hx, hy, rfl, hQ, hD, hrun, hbest, hway⟩
  · have HNW := hid hnw
    clear hnw
    go_wp2_with fail
    refine (reach_any HG4.out fr to mask).mono ?_
    rintro e w5 ⟨r, rfl, hr, hB5, hDD⟩
    obtain rfl : r = false := by
      cases r with
      | false => rfl
      | true => exact absurd (hr.1 rfl) HNW.out
    have HDD := hid hDD
    have HB5 := hid (HB4.out.trans (hB5.mono HB4.out.size))
    have H35 := hid (H34.out.trans (hB5.mono H34.out.size))
    clear hr hB5 hDD
    by_cases b1 : fr < 0
    · go_wp2_with fail
      go_ret
      exact ⟨rfl, HB5.out⟩
    by_cases b2 : to < 0
    · go_wp2_with fail
      go_ret
      exact ⟨rfl, HB5.out⟩
    by_cases b3 : (N : Int) ≤ fr
    · go_wp2_with fail
      go_ret
      exact ⟨rfl, HB5.out⟩
    by_cases b4 : (N : Int) ≤ to
    · go_wp2_with fail
      go_ret
      exact ⟨rfl, HB5.out⟩
    obtain ⟨x, rfl⟩ := Int.eq_ofNat_of_zero_le (show 0 ≤ fr by omega)
    obtain ⟨y, rfl⟩ := Int.eq_ofNat_of_zero_le (show 0 ≤ to by omega)
    have hx : x < N := by omega
    have hy : y < N := by omega
    have HNH := hid (no_hit HP.out HDD.out hx hy HNW.out)
    go_wp2_with fail
    refine (HH.out w5 H35.out _ _).mono ?_
    rintro e w6 ⟨r, rfl, hr, hB6⟩
    obtain rfl : r = false := by
      cases r with
      | false => rfl
      | true => exact absurd (hr.1 rfl) HNH.out
    have HB6 := hid (HB5.out.trans (hB6.mono HB5.out.size))
    clear hr hB6
    go_wp2_with fail
    go_ret
    exact ⟨rfl, HB6.out⟩
  · have F := Run.facts hD HG4.out.ok hy hrun hx hbest
    have hLN := F.len hD
    have hL2 := F.two
    have hne : p ≠ [] := fun h => by rw [h] at hL2; simp at hL2
    obtain ⟨b, off, cp, rfl, hcp, hbl, hcm, hc⟩ := q_iin hQ hne
    have HF := hid F
    have HD := hid hD
    have HRUN := hid hrun
    obtain ⟨L, hL⟩ : ∃ L, L = p.length := ⟨_, rfl⟩
    obtain ⟨P, hP⟩ : ∃ P : Nat → Nat, ∀ i, i < L → p[i]? = some (P i) := ⟨fun i => (p[i]?).getD 0, fun i hi => by
      have h9 : p[i]? = some (p[i]'(by omega)) := List.getElem?_eq_getElem _
      simp only [h9, Option.getD_some]⟩
    have HC := hid (fun (W : World) (hW : Below w4.heap.size w4 W) (i : Nat) (hi : i < L) => (show W.cell? ⟨b, off + i, none⟩ = some (.int .i64 (P i : Int)) from (hW.cell (p := ⟨b, off + i, none⟩) hbl).trans (hc i _ (hP i hi))))
    have HPP := hid hP
    have HL := hid hL
    have HW := hid hway
    have p0 : P 0 = x := Option.some.inj ((hP 0 (by omega)).symm.trans F.zero)
    have pl : P (L - 1) = y := Option.some.inj ((hP (L - 1) (by omega)).symm.trans (by rw [hL]; exact F.last))
    rw [← hL] at hLN hL2 hcp ⊢
    clear F hc hP hL hD hrun hbest hway hQ hne
    have i0 : 0 < L := by omega
    have i1 : ¬ L = 0 := by omega
    have i2 : ¬ (L : Int) < 2 := by omega
    have i3 : ¬ (N : Int) + 1 < (L : Int) := by omega
    have i4 : ¬ L < 2 := by omega
    have i5 : ¬ N + 1 < L := by omega
    have i6 : (0 : Int) < (L : Int) := by omega
    have i7 : ¬ (L : Int) = 0 := by omega
    obtain ⟨M, hM⟩ : ∃ M, L = M + 1 := ⟨L - 1, by omega⟩
    have hwrM : IntKind.i64.wrap ((L : Int) - 1) = (M : Int) := by rw [IntKind.wrap_i64]; omega
    have hML : (M : Int) < (L : Int) := by omega
    have pl : P M = y := by rw [← pl]; congr 1; omega
    have HM := hid hM
    clear hM
    go_wp2_with fail
    refine (reach_any HG4.out (x : Int) (y : Int) mask).mono ?_
    rintro e w5 ⟨r, rfl, hr, hB5, hDD⟩
    obtain rfl : r = true := hr.2 HW.out
    have HB5 := hid (HB4.out.trans (hB5.mono HB4.out.size))
    have H35 := hid (H34.out.trans (hB5.mono H34.out.size))
    have H45 := hid hB5
    have HG5 := hid (HG4.out.below hB5)
    have q0 : w5.cell? ⟨b, off, none⟩ = some (.int .i64 (x : Int)) := by
      have := HC.out w5 hB5 0 (by omega)
      rw [p0] at this
      exact this
    have q1 : w5.cell? ⟨b, off + M, none⟩ = some (.int .i64 (y : Int)) := by
      have := HC.out w5 hB5 M (by omega)
      rw [pl] at this
      exact this
    clear hr hB5 hDD HG3 HG4 HB3 HB4 p0 pl
    go_upto_region 16 with fail
    clear q0 q1 i0 i1 i2 i3 i4 i5 i6 i7 hwrM hML H34
    go_wp2_with fail
    go_loopg [14] L (fun gh s14 wr => ∃ j : Nat, j + 1 ≤ L ∧ gh = L - j ∧ s14 = .int .i64 ((j : Int) + 1) ∧ Hid (Below w5.heap.size w5 wr))
    case atStart => exact ⟨0, by omega, by omega, rfl, hid (Below.refl _ _)⟩
    case round =>
      obtain ⟨j, hj, rfl, rfl, HB⟩ := hrel
      have hj1 : IntKind.i64.wrap ((j : Int) + 1 - 1) = (j : Int) := by rw [IntKind.wrap_i64]; omega
      have hj0 : IntKind.i64.wrap (j : Int) = (j : Int) := by rw [IntKind.wrap_i64]; omega
      have hj2 : (j : Int) + 1 + 1 ≤ 9223372036854775807 := by omega
      by_cases hlt : j + 1 < L
      · have hltI : (j : Int) + 1 < (L : Int) := by omega
        have hltJ : (j : Int) < (L : Int) := by omega
        have c0 := HC.out wr (H45.out.trans (HB.out.mono H45.out.size)) j (by omega)
        have c1 := HC.out wr (H45.out.trans (HB.out.mono H45.out.size)) (j + 1) (by omega)
        have HE := hid (hit_edge HP.out (HF.out.edge j _ _ (HPP.out j (by omega)) (HPP.out (j + 1) (by omega))))
        go_upto_region 19 with fail
        clear hj2 hcm
        have HBd := hid HB.out.drew
        have hs1 : (0 : Int) ≤ (j : Int) + 1 := by omega
        have hs2 : ((j : Int) + 1).toNat = j + 1 := by omega
        have hs3 : ¬ (j : Int) + 1 < 0 := by omega
        go_still_tail 11, (by kernel_rfl)
        generalize hw6 : ({ heap := wr.heap, tape := wr.tape, drawn := wr.drawn + 1, os := wr.os, output := wr.output } : World) = w6
        have HBd2 : Hid (Below w5.heap.size w5 w6) := by rw [← hw6]; exact HBd
        have d0 : w6.cell? ⟨b, off + j, none⟩ = some (.int .i64 (P j : Int)) := by rw [← hw6]; exact c0
        have d1 : w6.cell? ⟨b, off + (j + 1), none⟩ = some (.int .i64 (P (j + 1) : Int)) := by rw [← hw6]; exact c1
        clear hw6 c0 c1 HBd
        go_wp2_with (go_at_call 18; refine (HH.out _ (H35.out.trans (HBd2.out.mono H35.out.size)) _ _).mono ?_; rintro e w7 ⟨r, rfl, hr, hB7⟩; obtain rfl : r = true := hr.2 HE.out; have HB7 := hid (HBd2.out.trans (hB7.mono HBd2.out.size)); clear hr hB7)
        clear d0 d1 HBd2 HB HE
        go_loopg [15] j (fun gh s15 wr => ∃ k : Nat, k ≤ j ∧ gh = j - k ∧ s15 = .int .i64 ((k : Int) + 1) ∧ Hid (Below w5.heap.size w5 wr))
        case atStart => exact ⟨0, by omega, by omega, rfl, HB7⟩
        case round =>
          clear HB7
          obtain ⟨k, hk, rfl, rfl, HB⟩ := hrel
          by_cases hkl : k < j
          · have hklI : (k : Int) + 1 < (j : Int) + 1 := by omega
            have hkL : (k : Int) + 1 < (L : Int) := by omega
            have ht1 : (0 : Int) ≤ (k : Int) + 1 := by omega
            have ht2 : ((k : Int) + 1).toNat = k + 1 := by omega
            have c0 := HC.out wr (H45.out.trans (HB.out.mono H45.out.size)) (k + 1) (by omega)
            have c1 := HC.out wr (H45.out.trans (HB.out.mono H45.out.size)) (j + 1) (by omega)
            have hne := HF.out.ne (Nat.le_add_left 1 k) (by omega) (HPP.out (k + 1) (by omega)) (HPP.out (j + 1) (by omega))
            have hneI : ¬ (P (k + 1) : Int) = (P (j + 1) : Int) := by omega
            have hb1 : ((P (k + 1) : Int) == (P (j + 1) : Int)) = false := beq_eq_false_iff_ne.mpr hneI
            clear hne
            go_upto_region 24 with fail
            go_region
            have HBd := hid HB.out.drew
            have hk2 : (k : Int) + 1 + 1 ≤ 9223372036854775807 := by omega
            clear c0 c1
            go_wp2_with fail
            go_roundg (j - (k + 1))
            case measure => omega
            case rel => exact ⟨k + 1, by omega, rfl, by go_num, HBd⟩
          · have hkl2 : ¬ (k : Int) + 1 < (j : Int) + 1 := by omega
            have hj2 : (j : Int) + 1 + 1 ≤ 9223372036854775807 := by omega
            go_wp2_with fail
            go_roundg (L - (j + 1))
            case measure => omega
            case rel => exact ⟨j + 1, by omega, rfl, by go_num, HB⟩
      · have hLM := HM.out
        obtain rfl : j = M := by omega
        subst hLM
        have hxt : ¬ (j : Int) + 1 < (j : Int) + 1 := by omega
        clear hj2
        by_cases h3 : 2 ≤ j
        · have h3I : (2 : Int) < (j : Int) + 1 := by omega
          have h3N : 2 < j + 1 := by omega
          have HT := hid (fun (W : World) (hW : Below w5.heap.size w5 W) => tail_any (HG5.out.below hW) HD.out hy HRUN.out HF.out HL.out.symm h3 HPP.out)
          have c1 := HC.out wr (H45.out.trans (HB.out.mono H45.out.size)) 1 (by omega)
          obtain ⟨cc, rfl⟩ : ∃ cc, cp = cc + 1 := ⟨cp - 1, by omega⟩
          have hcc : ¬ cc = 0 := by omega
          have hjcc : j ≤ cc := by omega
          have hlenR : ((List.range j).map fun i => (P (i + 1) : Int)).length = j := by simp
          have hsame := fun (W : World) (a a' : Option Addr) (h : IIn W a ((List.range j).map fun i => (P (i + 1) : Int))) (h' : IIn W a' ((List.range j).map fun i => (P (i + 1) : Int))) (k k' : Nat) => same_yes h h' (by rw [hlenR]; omega) k k'
          rw [hlenR] at hsame
          have HSM := hid hsame
          clear hsame
          have hiin := fun (W : World) (b o : Nat) (hb : b < W.heap.size) (hc : ∀ i, i < j → W.cell? ⟨b, o + i, none⟩ = some (.int .i64 (P (i + 1) : Int))) => (show IIn W (some ⟨b, o, none⟩) ((List.range j).map fun i => (P (i + 1) : Int)) from fun _ => ⟨b, o, rfl, hb, fun i hi => by
            have hi' : i < j := by simpa using hi
            rw [hc i hi']
            simp⟩)
          have HII := hid hiin
          clear hiin hlenR
          have HBd := hid HB.out.drew
          have hbl5 : b < wr.heap.size := Nat.lt_of_lt_of_le (Nat.lt_of_lt_of_le hbl H45.out.size) HB.out.size
          go_upto_region 27 with fail
          clear hcm
          go_region_with (first | (go_at_call 17; refine (HT.out _ HBd.out).mono ?_; rintro e w8 ⟨b8, o8, c8, rfl, hc8, hbl8, hB8⟩) | (go_at_call 19; refine (HSM.out _ _ _ (HII.out _ b8 o8 hbl8 hc8) (HII.out _ b (off + 1) (Nat.lt_of_lt_of_le hbl5 hB8.size) (fun i hi => by have := HC.out w8 (H45.out.trans ((HBd.out.trans (hB8.mono HBd.out.size)).mono H45.out.size)) (i + 1) (by omega); rw [show off + (i + 1) = off + 1 + i by omega] at this; exact this)) _ _).mono ?_; rintro e w9 ⟨rfl, rfl⟩))
          all_goals go_wp2_with fail
          all_goals go_ret
          all_goals exact ⟨rfl, HB5.out.trans ((HBd.out.trans (hB8.mono HBd.out.size)).mono HB5.out.size)⟩
        · have h3I : ¬ (2 : Int) < (j : Int) + 1 := by omega
          have h3N : ¬ 2 < j + 1 := by omega
          go_wp2_with fail
          go_ret
          exact ⟨rfl, HB5.out.trans (HB.out.mono HB5.out.size)⟩
end Go.Proofs.Ytbbfbkoanbdghaa
