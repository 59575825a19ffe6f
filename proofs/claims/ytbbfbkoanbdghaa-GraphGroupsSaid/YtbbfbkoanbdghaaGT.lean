/- The walk of Path. No statement is proved here. -/
import Derived.Test.YtbbfbkoanbdghaaGR
import Derived.Deep.LoopGhost
set_option linter.unusedVariables false
set_option linter.unusedSimpArgs false
namespace Go.Proofs.Ytbbfbkoanbdghaa
open Go.RowKit

def PathPost (w : World) (es : List E) (N : Nat) (mask a b : Int) (e : Ending) (w' : World) : Prop :=
  Below w.heap.size w w' ∧ ((e = .returned (.slice none 0 0) ∧ ¬ WayI es N mask a b) ∨
    ∃ (x y : Nat) (v : Value) (p : List Nat) (D : Nat → Int) (d : Nat), a = (x : Int) ∧ b = (y : Int) ∧ x < N ∧ y < N ∧ e = .returned v ∧ QOwn w' d w.heap.size v p ∧ IsDist es N mask y D ∧ Run (nxt es N mask D) y x p ∧ 0 ≤ bestE D mask (rowE es N x) ∧ WayI es N mask a b)
set_option maxHeartbeats 16000000 in
set_option maxRecDepth 100000 in
theorem path_any {B : Nat} {w : World} {g N : Nat} {es : List E} {mb ob bb : Nat} {oc bc : Array Value} {vs : Nat → Value} (h : Gr B w g N es mb ob bb oc bc vs) (a b mask : Int) :
    Calls Try.prog 17 #[.pointer (some ⟨g, 0, none⟩), .int .i64 a, .int .i64 b, .int .i64 mask] w (PathPost w es N mask a b) := by
  have H0 := hid h
  have hnn := h.nn
  clear h
  go_enter Try.func17, Try.ntmps17
  go_upto_region 1 with fail
  go_wp2_with fail
  refine (reach_any H0.out a b mask).mono ?_
  rintro e w1 ⟨r, rfl, hr, hB1, _⟩
  have HR := hid hr
  have HB1 := hid hB1
  have HG1 := hid (H0.out.below hB1)
  clear hr hB1
  cases r with
  | false =>
    have hnw : Hid (¬ WayI es N mask a b) := hid fun hw => by have := HR.out.2 hw; cases this
    go_wp2_with fail
    go_ret
    exact ⟨HB1.out, .inl ⟨rfl, hnw.out⟩⟩
  | true =>
    have hw := HR.out.1 rfl
    have HW := hid hw
    obtain ⟨hn1, hn2, _⟩ := hw
    simp [nodeB] at hn1 hn2
    obtain ⟨x, rfl⟩ := Int.eq_ofNat_of_zero_le hn1.1
    obtain ⟨y, rfl⟩ := Int.eq_ofNat_of_zero_le hn2.1
    have hx : x < N := by omega
    have hy : y < N := by omega
    clear hn1 hn2 HR
    go_wp2_with fail
    refine (dist_any HG1.out y hy mask).mono ?_
    rintro e w2 ⟨d, D, rfl, hD, hR, hdw, hB2⟩
    have HD := hid hD
    have hw2 := HW.out.2.2
    rw [Int.toNat_natCast, Int.toNat_natCast, way_iff HD.out HG1.out.ok] at hw2
    have h0 : 0 ≤ bestE D mask (rowE es N x) := (bestE_pos D mask _ (fun e he => (HG1.out.ok e (out_mem hx he).1).2.2.1)).2 (by
      obtain ⟨e, he, hf, hr⟩ := hw2
      exact ⟨e, mem_rowE hx he hf, hr⟩)
    have HS0 := hid h0
    have hal := (Below.refl _ w2).alloc (Nat.le_refl _) (.cells #[.int .i64 (x : Int)] 3)
    have HG3 := hid ((HG1.out.below hB2).below hal)
    have HR3 := hid (hR.kept (hal.block d hR.lt))
    have hsz1 : w.heap.size ≤ w1.heap.size := HB1.out.size
    have hsz2 : w1.heap.size ≤ w2.heap.size := hB2.size
    have HB3 := hid ((HB1.out.trans (hB2.mono hsz1)).trans (hal.mono (Nat.le_trans hsz1 hsz2)))
    have HQ3 : Hid (QOwn (w2.alloc (.cells #[.int .i64 (x : Int)] 3)) d w.heap.size (.slice (some ⟨w2.heap.size, 0, none⟩) 1 1) ([] ++ [x])) := hid ⟨w2.heap.size, 0, 1, _, rfl, by have := hR.lt; omega, by omega, heap_alloc_new w2 _, Nat.le_refl _, by unfold maxLen; omega, by simp, fun i hi => by
      have : i = 0 := by simp at hi; omega
      subst this
      simp⟩
    clear hD hR hdw hB2 hw2 h0 hal HB1 HG1
    go_upto_region 5 with fail
    obtain ⟨w3, hw3⟩ : ∃ w3, w2.alloc (.cells #[.int .i64 (x : Int)] 3) = w3 := ⟨_, rfl⟩
    rw [hw3] at HG3 HR3 HB3 HQ3 ⊢
    clear hw3 hsz2
    go_loopg [10] (D (nxt es N mask D x)).toNat (fun gh s10 wr => ∃ (Q : List Nat) (cur : Nat), cur < N ∧ gh = (D (nxt es N mask D cur)).toNat ∧ Hid (QOwn wr d w.heap.size s10 (Q ++ [cur])) ∧ Hid (IntRow wr d N D) ∧ Hid (∀ l, Run (nxt es N mask D) y cur (cur :: l) → Run (nxt es N mask D) y x (Q ++ cur :: l)) ∧ Hid (0 ≤ bestE D mask (rowE es N cur)) ∧ Q.length + (D (nxt es N mask D cur)).toNat ≤ N ∧ Hid (Below w.heap.size w wr))
    case atStart => exact ⟨[], x, hx, rfl, HQ3, HR3, hid fun l h => h, HS0, by
      obtain ⟨_, hn, _, hp⟩ := nxt_edge HD.out H0.out.ok hx HS0.out
      have := HD.out.lt hn
      simp
      omega, HB3⟩
    case round =>
      clear HQ3 HR3 HG3 HB3
      obtain ⟨Q, cur, hcur, rfl, HQ, HR, HI, HS, hms, HB⟩ := hrel
      have HG := hid (H0.out.below HB.out)
      obtain ⟨bq, off, cap, cs, rfl, hbd, hBb, hbq, hlc, hcm, hcs, hc⟩ := HQ.out
      obtain ⟨L, hL⟩ : ∃ L, L = Q.length := ⟨_, rfl⟩
      have hlen : (Q ++ [cur]).length = L + 1 := by rw [hL]; simp
      rw [hlen] at hlc HQ ⊢
      have q0 : wr.cell? ⟨bq, off + L, none⟩ = some (.int .i64 (cur : Int)) := (blk_cell hbq (off + L)).trans ((hc L (by omega)).trans (by simp [hL]))
      obtain ⟨hbe, hnN, hE, hnp⟩ := nxt_edge HD.out HG.out.ok hcur HS.out
      have hst := step_any HG.out cur hcur mask d D HR.out
      rw [hbe] at hst
      have HST := hid hst
      have HL := hid hL
      have hLN : L ≤ N := by omega
      have hmsL := hms
      rw [← hL] at hmsL
      obtain ⟨z, hz⟩ : ∃ z, z = nxt es N mask D cur := ⟨_, rfl⟩
      rw [← hz] at HST hnN hE hnp hms hmsL
      have HZ := hid hz
      have HNP := hid hnp
      clear hst hc hbe hE hz hL hnp hms
      have hwr : IntKind.i64.wrap ((L : Int) + 1 - 1) = (L : Int) := by rw [IntKind.wrap_i64]; omega
      go_upto_region 6 with fail
      refine HST.out.mono ?_
      rintro e w4 ⟨rfl, hB4⟩
      have HQ4 := hid (HQ.out.below hB4)
      have HR4 := hid (HR.out.kept (hB4.block d HR.out.lt))
      have HB4 := hid (HB.out.trans (hB4.mono HB.out.size))
      clear HQ HR HG HB q0 HST hB4 hwr hbq hcs
      go_upto_region 6 with fail
      have hal := (Below.refl _ w4).alloc (Nat.le_refl _) (.cells #[.int .i64 (z : Int)] 3)
      obtain ⟨v', w8, hrun, hQ8, hd8, hB8, hk8⟩ := q_append (HQ4.out.below hal) (Nat.le_trans HB4.out.size hal.size) (Nat.lt_of_lt_of_le HR4.out.lt hal.size) z 38 w4.heap.size (heap_alloc_new w4 _) (by rw [hlen]; omega)
      have HQ8 := hid hQ8
      have HR8 := hid ((HR4.out.kept (hal.block d HR4.out.lt)).kept hd8)
      have HB8 := hid ((HB4.out.trans (hal.mono HB4.out.size)).trans hB8)
      clear hQ8 hd8 hB8 hk8 hal HQ4 HR4 HB4
      by_cases hzy : z = y
      · subst hzy
        have HRUN := hid (HI.out [z] (Run.stop cur HZ.out.symm))
        go_wp2_with (at_builtin; refine wpList_append_run _ rfl (.tmp 34) (.tmp 36) 38 38 rfl _ _ rfl rfl hrun ?_)
        go_ret
        exact ⟨HB8.out, .inr ⟨x, z, v', _, D, d, rfl, rfl, hx, hy, rfl, HQ8.out, HD.out, by simpa using HRUN.out, HS0.out, HW.out⟩⟩
      · have hzI : ¬ (z : Int) = (y : Int) := by omega
        have hb1 : ((z : Int) == (y : Int)) = false := beq_eq_false_iff_ne.mpr hzI
        have hb2 : decide ((z : Int) = (y : Int)) = false := decide_eq_false hzI
        have hpos : 0 < D z := by
          rcases Int.lt_or_eq_of_le HNP.out with h | h
          · exact h
          · exact absurd (HD.out.zero _ hnN h.symm) hzy
        obtain ⟨hs1, hs2⟩ := nxt_down HD.out H0.out.ok hnN hpos
        obtain ⟨_, _, _, hs3⟩ := nxt_edge HD.out H0.out.ok hnN hs1
        have HS1 := hid hs1
        have hm1 : (D (nxt es N mask D z)).toNat + 1 = (D z).toNat := by omega
        have HI2 : Hid (∀ l, Run (nxt es N mask D) y z (z :: l) → Run (nxt es N mask D) y x (Q ++ [cur] ++ z :: l)) := hid fun l hr => by
          have h1 := HI.out (z :: l) (Run.go cur (z :: l) (by rw [← HZ.out]; exact hzy) (by rw [← HZ.out]; exact hr))
          simpa using h1
        clear hzy hpos hs1 hs2 hs3
        go_wp2_with (at_builtin; refine wpList_append_run _ rfl (.tmp 34) (.tmp 36) 38 38 rfl _ _ rfl rfl hrun ?_)
        rw [HZ.out.symm]
        go_roundg ((D (nxt es N mask D z)).toNat)
        case measure => omega
        case rel => exact ⟨Q ++ [cur], z, hnN, rfl, HQ8, HR8, HI2, HS1, by have := HL.out; simp; omega, HB8⟩
end Go.Proofs.Ytbbfbkoanbdghaa
