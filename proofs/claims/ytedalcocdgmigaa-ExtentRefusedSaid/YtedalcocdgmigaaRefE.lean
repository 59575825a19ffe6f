/- What step answers: the space and the document's space agree. No statement is proved here. -/
import Derived.Test.YtedalcocdgmigaaRefD
set_option linter.unusedVariables false
set_option linter.unusedSimpArgs false
namespace Go.Proofs.Ytedalcocdgmigaa
open Go.RowKit

def StepPost (B : Nat) (w : World) (p r u : Nat) (n : Int) (e : Ending) (w' : World) : Prop := e = .returned (.bool true) ∧ ∃ o' hs' us', Two B w' p o' n hs' r u us' ∧ Below B w w'
set_option maxHeartbeats 4000000 in
set_option maxRecDepth 100000 in
theorem step_any (B : Nat) (w : World) (p r u : Nat) (o : Option Nat) (n : Int) (hs : List (Int × Int)) (us : List Bool) (kd fr ct : Int) (hB : B ≤ w.heap.size) (t : Two B w p o n hs r u us)
    (hf0 : -9223372036854775808 ≤ fr) (hf1 : fr ≤ 9223372036854775807) (hc0 : -9223372036854775808 ≤ ct) (hc1 : ct ≤ 9223372036854775807) :
    Calls Try.prog 21 #[.pointer (some ⟨p, 0, none⟩), .pointer (some ⟨r, 0, none⟩), .agg #[.int .i64 kd, .int .i64 fr, .int .i64 ct]] w (StepPost B w p r u n) := by
  have hal := (Below.refl _ w).alloc (Nat.le_refl _) (.cells #[.int .i64 kd, .int .i64 fr, .int .i64 ct] 46)
  have Ta := hid (t.below hal)
  have hba := hid (hal.mono hB)
  have xb := heap_alloc_new w (.cells #[.int .i64 kd, .int .i64 fr, .int .i64 ct] 46)
  have hxl := blk_lt xb
  have xc0 : (w.alloc (.cells #[.int .i64 kd, .int .i64 fr, .int .i64 ct] 46)).cell? ⟨w.heap.size, 0, none⟩ = some (.int .i64 kd) := by rw [blk_cell xb]; rfl
  have xc1 : (w.alloc (.cells #[.int .i64 kd, .int .i64 fr, .int .i64 ct] 46)).cell? ⟨w.heap.size, 1, none⟩ = some (.int .i64 fr) := by rw [blk_cell xb]; rfl
  have xc2 : (w.alloc (.cells #[.int .i64 kd, .int .i64 fr, .int .i64 ct] 46)).cell? ⟨w.heap.size, 2, none⟩ = some (.int .i64 ct) := by rw [blk_cell xb]; rfl
  have hxp : w.heap.size ≠ p := by have := t.sp.lt.1; omega
  have hxo : o ≠ some w.heap.size := fun he => by have := t.sp.lt.2 _ he; omega
  have hxu : w.heap.size ≠ u := by have := t.rf.open.2.1; omega
  have hpn := t.sp.n0
  clear hal t
  by_cases hk1 : kd = 1
  · subst hk1
    by_cases hct : ct < 1
    · go_enter Try.func21, Try.ntmps21
      go_wp2_with fail
      refine (alloc_bad p ct _ hct).mono ?_
      rintro e w1 ⟨rfl, hb1⟩
      have hab := (Below.refl _ w1).alloc (Nat.le_refl _) (.cells #[.int .i64 0, .int .i64 0] 31)
      have T1 := hid ((Ta.out.below hb1).below hab)
      have hb1' := hba.out.trans (hb1.mono (Nat.le_trans hB hba.out.size))
      have hb1a := hb1'.trans (hab.mono (Nat.le_trans hB hb1'.size))
      have hxl1 := Nat.lt_of_lt_of_le hxl hb1.size
      have c2 := (hab.cell (p := ⟨w.heap.size, 2, none⟩) hxl1).trans ((hb1.cell (p := ⟨w.heap.size, 2, none⟩) hxl).trans xc2)
      have yb := heap_alloc_new w1 (.cells #[.int .i64 0, .int .i64 0] 31)
      have hyl := blk_lt yb
      have Yb := hid yb
      unfold pairV
      clear hb1 hab hb1' xc0 xc1 xc2 yb
      go_wp2_with fail
      refine (ralloc_bad r ct _ hct).mono ?_
      rintro e w2 ⟨rfl, hb2⟩
      have T2 := hid (T1.out.below hb2)
      have hb2' := hb1a.trans (hb2.mono (Nat.le_trans hB hb1a.size))
      have y2 := (hb2.block w1.heap.size hyl).trans Yb.out
      have z0 : w2.cell? ⟨w1.heap.size, 0, none⟩ = some (.int .i64 0) := by rw [blk_cell y2]; rfl
      have z1 : w2.cell? ⟨w1.heap.size, 1, none⟩ = some (.int .i64 0) := by rw [blk_cell y2]; rfl
      clear hb2 hb1a y2 Yb c2
      go_wp2_with fail
      go_ret
      exact ⟨rfl, o, hs, us, T2.out, hb2'⟩
    · go_enter Try.func21, Try.ntmps21
      go_wp2_with fail
      refine (alloc_good p o n ct hs _ Ta.out.sp (by omega) hc1).mono ?_
      rintro e w1 (⟨A, h, C, hhs, hA, hfit, rfl, o1, hsp1, hst1⟩ | ⟨hno, rfl, hb1⟩)
      · have hab := (Below.refl _ w1).alloc (Nat.le_refl _) (.cells #[.int .i64 h.1, .int .i64 ct] 31)
        have hst1a := hst1.trans (SpStep.of_below (o := o1) hab)
        have hsp1a := hsp1.below hab
        obtain ⟨hrf1, _, _, _, hb1⟩ := Ta.out.step hst1a (Nat.le_trans hB hba.out.size)
        obtain ⟨_, hxk⟩ := hst1a.aside hxp hxo hxl
        have hx6 := hxk.trans xb
        have c2 : (w1.alloc (.cells #[.int .i64 h.1, .int .i64 ct] 31)).cell? ⟨w.heap.size, 2, none⟩ = some (.int .i64 ct) := by rw [blk_cell hx6]; rfl
        have hxl6 := blk_lt hx6
        have yb := heap_alloc_new w1 (.cells #[.int .i64 h.1, .int .i64 ct] 31)
        have hyl := blk_lt yb
        have hyu : w1.heap.size ≠ u := by
          obtain ⟨hrf0, _⟩ := Ta.out.step hst1 (Nat.le_trans hB hba.out.size)
          have := hrf0.open.2.1
          omega
        have Yb := hid yb
        have Hrf := hid hrf1
        have Hsp1 := hid hsp1a
        have Hst1 := hid hst1a
        have Hhs := hid hhs
        have HA := hid hA
        have hbb := hba.out.trans hb1
        have hfl : 1 ≤ ct := by omega
        unfold pairV
        clear hab hst1 hst1a hsp1 hsp1a hrf1 hb1 hxk yb xc0 xc1 xc2 hhs hA
        go_wp2_with fail
        refine (ralloc_any r u n ct us hs _ Hrf.out Ta.out.sp.ok Ta.out.ag hfl).mono ?_
        rintro e w2 (⟨A', h', C', hhs', hA', hfit', rfl, hst2⟩ | ⟨hno, _⟩)
        · obtain ⟨rfl, rfl, rfl⟩ := first_unique (Hhs.out.symm.trans hhs') HA.out hfit hA' hfit'
          have hu2 : Upd (fun k => k = u) (w1.alloc (.cells #[.int .i64 h.1, .int .i64 ct] 31)) w2 := by obtain ⟨_, _, hu, _⟩ := hst2; exact hu
          have y2 := (hu2.block w1.heap.size hyl hyu).trans Yb.out
          have z0 : w2.cell? ⟨w1.heap.size, 0, none⟩ = some (.int .i64 h.1) := by rw [blk_cell y2]; rfl
          have z1 : w2.cell? ⟨w1.heap.size, 1, none⟩ = some (.int .i64 ct) := by rw [blk_cell y2]; rfl
          have c2' := (hu2.cell (p := ⟨w.heap.size, 2, none⟩) hxl6 hxu).trans c2
          have Hst2 := hid hst2
          have hok := Ta.out.sp.ok
          rw [Hhs.out] at hok
          have Hok := hid hok
          clear hu2 y2 Yb hst2 c2 hx6 hhs' hA' hfit' hok
          go_wp2_with fail
          go_ret
          obtain ⟨us', ht2, hb2⟩ := Ta.out.both Hst1.out (Nat.le_trans hB hba.out.size) Hsp1.out Hst2.out (fun x h0 h1 => by
            rw [cut_free (e := (h.1, ct)) Hok.out (Int.le_refl _) hfl (by simp only; omega) x, ← Hhs.out]
            by_cases hx : h.1 ≤ x ∧ x < h.1 + ct
            · rw [if_pos hx]; simp [hx.1, hx.2]
            · rw [if_neg hx]
              have : (decide (h.1 ≤ x) && decide (x < h.1 + ct)) = false := by simp; omega
              rw [this]; simp)
          exact ⟨rfl, o1, _, us', ht2, hba.out.trans hb2⟩
        · have := hno h (by rw [Hhs.out]; simp)
          omega
      · have hab := (Below.refl _ w1).alloc (Nat.le_refl _) (.cells #[.int .i64 0, .int .i64 0] 31)
        have T1 := hid ((Ta.out.below hb1).below hab)
        have hb1' := hba.out.trans (hb1.mono (Nat.le_trans hB hba.out.size))
        have hb1a := hb1'.trans (hab.mono (Nat.le_trans hB hb1'.size))
        have hxl1 := Nat.lt_of_lt_of_le hxl hb1.size
        have c2 := (hab.cell (p := ⟨w.heap.size, 2, none⟩) hxl1).trans ((hb1.cell (p := ⟨w.heap.size, 2, none⟩) hxl).trans xc2)
        have yb := heap_alloc_new w1 (.cells #[.int .i64 0, .int .i64 0] 31)
        have hyl := blk_lt yb
        have Yb := hid yb
        have Hno := hid hno
        have hfl : 1 ≤ ct := by omega
        unfold pairV
        clear hb1 hab hb1' xc0 xc1 xc2 yb hno
        go_wp2_with fail
        refine (ralloc_any r u n ct us hs _ T1.out.rf T1.out.sp.ok T1.out.ag hfl).mono ?_
        rintro e w2 (⟨A', h', C', hhs', hA', hfit', rfl, hst2⟩ | ⟨_, rfl, hb2⟩)
        · have := Hno.out h' (by rw [hhs']; simp)
          omega
        · have T2 := hid (T1.out.below hb2)
          have hb2' := hb1a.trans (hb2.mono (Nat.le_trans hB hb1a.size))
          have y2 := (hb2.block w1.heap.size hyl).trans Yb.out
          have z0 : w2.cell? ⟨w1.heap.size, 0, none⟩ = some (.int .i64 0) := by rw [blk_cell y2]; rfl
          have z1 : w2.cell? ⟨w1.heap.size, 1, none⟩ = some (.int .i64 0) := by rw [blk_cell y2]; rfl
          clear hb2 hb1a y2 Yb c2
          go_wp2_with fail
          go_ret
          exact ⟨rfl, o, hs, us, T2.out, hb2'⟩
  by_cases hk2 : kd = 2
  · subst hk2
    go_enter Try.func21, Try.ntmps21
    go_wp2_with fail
    refine (take_any p o n fr ct hs _ Ta.out.sp).mono ?_
    rintro e w1 (⟨hi, rfl, hb1⟩ | ⟨hi, ⟨x, hx1, hx2, hx3⟩, rfl, hb1⟩ | ⟨hi, hall, hs', hok', hfr', rfl, o1, hsp1, hst1⟩)
    · have T1 := hid (Ta.out.below hb1)
      have c1 := (hb1.cell (p := ⟨w.heap.size, 1, none⟩) hxl).trans xc1
      have c2 := (hb1.cell (p := ⟨w.heap.size, 2, none⟩) hxl).trans xc2
      have hb1' := hba.out.trans (hb1.mono (Nat.le_trans hB hba.out.size))
      have Hi := hid hi
      clear hb1 hi xc0 xc1 xc2
      go_wp2_with fail
      refine (rtake_any r u n fr ct us hs w1 T1.out.rf T1.out.ag hf0 hc0 hf1 hc1).mono ?_
      rintro e w2 (⟨_, rfl, hb2⟩ | ⟨hi2, _⟩ | ⟨hi2, _⟩)
      · have T2 := hid (T1.out.below hb2)
        have hb2' := hb1'.trans (hb2.mono (Nat.le_trans hB hb1'.size))
        clear hb2 hb1'
        go_wp2_with fail
        go_ret
        exact ⟨rfl, o, hs, us, T2.out, hb2'⟩
      · rw [Hi.out] at hi2; cases hi2
      · rw [Hi.out] at hi2; cases hi2
    · have T1 := hid (Ta.out.below hb1)
      have c1 := (hb1.cell (p := ⟨w.heap.size, 1, none⟩) hxl).trans xc1
      have c2 := (hb1.cell (p := ⟨w.heap.size, 2, none⟩) hxl).trans xc2
      have hb1' := hba.out.trans (hb1.mono (Nat.le_trans hB hba.out.size))
      have Hi := hid hi
      clear hb1 hi xc0 xc1 xc2
      go_wp2_with fail
      refine (rtake_any r u n fr ct us hs w1 T1.out.rf T1.out.ag hf0 hc0 hf1 hc1).mono ?_
      rintro e w2 (⟨hi2, _⟩ | ⟨_, _, rfl, hb2⟩ | ⟨_, hall2, _⟩)
      · rw [Hi.out] at hi2; cases hi2
      · have T2 := hid (T1.out.below hb2)
        have hb2' := hb1'.trans (hb2.mono (Nat.le_trans hB hb1'.size))
        clear hb2 hb1'
        go_wp2_with fail
        go_ret
        exact ⟨rfl, o, hs, us, T2.out, hb2'⟩
      · rw [hall2 x hx1 hx2] at hx3; cases hx3
    · obtain ⟨hrf1, _, _, _, hb1⟩ := Ta.out.step hst1 (Nat.le_trans hB hba.out.size)
      obtain ⟨_, hxk⟩ := hst1.aside hxp hxo hxl
      have hx6 := hxk.trans xb
      have c1 : w1.cell? ⟨w.heap.size, 1, none⟩ = some (.int .i64 fr) := by rw [blk_cell hx6]; rfl
      have c2 : w1.cell? ⟨w.heap.size, 2, none⟩ = some (.int .i64 ct) := by rw [blk_cell hx6]; rfl
      have hb1' := hba.out.trans hb1
      have Hi := hid hi
      have Hrf1 := hid hrf1
      have Hall := hid hall
      have Hsp1 := hid hsp1
      have Hst1 := hid hst1
      have Hfr := hid hfr'
      clear hb1 hi xc0 xc1 xc2 hrf1 hall hsp1 hst1 hok' hfr' hx6 hxk
      go_wp2_with fail
      refine (rtake_any r u n fr ct us hs w1 Hrf1.out Ta.out.ag hf0 hc0 hf1 hc1).mono ?_
      rintro e w2 (⟨hi2, _⟩ | ⟨_, ⟨x, hx1, hx2, hx3⟩, _⟩ | ⟨_, _, rfl, hst2⟩)
      · rw [Hi.out] at hi2; cases hi2
      · rw [Hall.out x hx1 hx2] at hx3; cases hx3
      · have Hst2 := hid hst2
        clear hst2
        go_wp2_with fail
        go_ret
        obtain ⟨us', ht2, hb2⟩ := Ta.out.both Hst1.out (Nat.le_trans hB hba.out.size) Hsp1.out Hst2.out (fun x h0 h1 => by
          rw [Hfr.out]
          by_cases hx : fr ≤ x ∧ x < fr + ct
          · rw [if_pos hx]; simp [hx.1, hx.2]
          · rw [if_neg hx]
            have : (decide (fr ≤ x) && decide (x < fr + ct)) = false := by simp; omega
            rw [this]; simp)
        exact ⟨rfl, o1, hs', us', ht2, hba.out.trans hb2⟩
  by_cases hk3 : kd = 3
  · subst hk3
    go_enter Try.func21, Try.ntmps21
    go_wp2_with fail
    refine (free_any p o n fr ct hs _ Ta.out.sp).mono ?_
    rintro e w1 (⟨hi, rfl, hb1⟩ | ⟨hi, ⟨x, hx1, hx2, hx3⟩, rfl, hb1⟩ | ⟨hi, hall, hs', hok', hfr', rfl, o1, hsp1, hst1⟩)
    · have T1 := hid (Ta.out.below hb1)
      have c1 := (hb1.cell (p := ⟨w.heap.size, 1, none⟩) hxl).trans xc1
      have c2 := (hb1.cell (p := ⟨w.heap.size, 2, none⟩) hxl).trans xc2
      have hb1' := hba.out.trans (hb1.mono (Nat.le_trans hB hba.out.size))
      have Hi := hid hi
      clear hb1 hi xc0 xc1 xc2
      go_wp2_with fail
      refine (rfree_any r u n fr ct us hs w1 T1.out.rf T1.out.ag hf0 hc0 hf1 hc1).mono ?_
      rintro e w2 (⟨_, rfl, hb2⟩ | ⟨hi2, _⟩ | ⟨hi2, _⟩)
      · have T2 := hid (T1.out.below hb2)
        have hb2' := hb1'.trans (hb2.mono (Nat.le_trans hB hb1'.size))
        clear hb2 hb1'
        go_wp2_with fail
        go_ret
        exact ⟨rfl, o, hs, us, T2.out, hb2'⟩
      · rw [Hi.out] at hi2; cases hi2
      · rw [Hi.out] at hi2; cases hi2
    · have T1 := hid (Ta.out.below hb1)
      have c1 := (hb1.cell (p := ⟨w.heap.size, 1, none⟩) hxl).trans xc1
      have c2 := (hb1.cell (p := ⟨w.heap.size, 2, none⟩) hxl).trans xc2
      have hb1' := hba.out.trans (hb1.mono (Nat.le_trans hB hba.out.size))
      have Hi := hid hi
      clear hb1 hi xc0 xc1 xc2
      go_wp2_with fail
      refine (rfree_any r u n fr ct us hs w1 T1.out.rf T1.out.ag hf0 hc0 hf1 hc1).mono ?_
      rintro e w2 (⟨hi2, _⟩ | ⟨_, _, rfl, hb2⟩ | ⟨_, hall2, _⟩)
      · rw [Hi.out] at hi2; cases hi2
      · have T2 := hid (T1.out.below hb2)
        have hb2' := hb1'.trans (hb2.mono (Nat.le_trans hB hb1'.size))
        clear hb2 hb1'
        go_wp2_with fail
        go_ret
        exact ⟨rfl, o, hs, us, T2.out, hb2'⟩
      · rw [hall2 x hx1 hx2] at hx3; cases hx3
    · obtain ⟨hrf1, _, _, _, hb1⟩ := Ta.out.step hst1 (Nat.le_trans hB hba.out.size)
      obtain ⟨_, hxk⟩ := hst1.aside hxp hxo hxl
      have hx6 := hxk.trans xb
      have c1 : w1.cell? ⟨w.heap.size, 1, none⟩ = some (.int .i64 fr) := by rw [blk_cell hx6]; rfl
      have c2 : w1.cell? ⟨w.heap.size, 2, none⟩ = some (.int .i64 ct) := by rw [blk_cell hx6]; rfl
      have hb1' := hba.out.trans hb1
      have Hi := hid hi
      have Hrf1 := hid hrf1
      have Hall := hid hall
      have Hsp1 := hid hsp1
      have Hst1 := hid hst1
      have Hfr := hid hfr'
      clear hb1 hi xc0 xc1 xc2 hrf1 hall hsp1 hst1 hok' hfr' hx6 hxk
      go_wp2_with fail
      refine (rfree_any r u n fr ct us hs w1 Hrf1.out Ta.out.ag hf0 hc0 hf1 hc1).mono ?_
      rintro e w2 (⟨hi2, _⟩ | ⟨_, ⟨x, hx1, hx2, hx3⟩, _⟩ | ⟨_, _, rfl, hst2⟩)
      · rw [Hi.out] at hi2; cases hi2
      · rw [Hall.out x hx1 hx2] at hx3; cases hx3
      · have Hst2 := hid hst2
        clear hst2
        go_wp2_with fail
        go_ret
        obtain ⟨us', ht2, hb2⟩ := Ta.out.both Hst1.out (Nat.le_trans hB hba.out.size) Hsp1.out Hst2.out (fun x h0 h1 => by
          rw [Hfr.out]
          by_cases hx : fr ≤ x ∧ x < fr + ct
          · rw [if_pos hx]; simp [hx.1, hx.2]
          · rw [if_neg hx]
            have : (decide (fr ≤ x) && decide (x < fr + ct)) = false := by simp; omega
            rw [this]; simp)
        exact ⟨rfl, o1, hs', us', ht2, hba.out.trans hb2⟩
  by_cases hk4 : kd = 4
  · subst hk4
    go_enter Try.func21, Try.ntmps21
    go_wp2_with fail
    refine (tells_any _ p r u o n hs us Ta.out.sp Ta.out.rf Ta.out.ag).mono ?_
    rintro e w1 ⟨rfl, hb1⟩
    have T1 := hid (Ta.out.below hb1)
    have hb1' := hba.out.trans (hb1.mono (Nat.le_trans hB hba.out.size))
    clear hb1
    go_wp2_with fail
    go_ret
    exact ⟨rfl, o, hs, us, T1.out, hb1'⟩
  have e1 : (kd == 1) = false := by simpa using hk1
  have e2 : (kd == 2) = false := by simpa using hk2
  have e3 : (kd == 3) = false := by simpa using hk3
  have e4 : (kd == 4) = false := by simpa using hk4
  clear hk1 hk2 hk3 hk4
  go_enter Try.func21, Try.ntmps21
  go_wp2_with fail
  go_ret
  exact ⟨rfl, o, hs, us, Ta.out, hba.out⟩
end Go.Proofs.Ytedalcocdgmigaa
