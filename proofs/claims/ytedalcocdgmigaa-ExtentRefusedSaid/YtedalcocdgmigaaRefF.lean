/- What step answers: the space and the document's space agree. No statement is proved here. -/
import Derived.Test.YtedalcocdgmigaaRefE
set_option linter.unusedVariables false
set_option linter.unusedSimpArgs false
namespace Go.Proofs.Ytedalcocdgmigaa
open Go.RowKit

def TakeOk (n : Int) (hs : List (Int × Int)) (f c : Int) (v : Bool) : Prop := insideB n f c = true ∧ ∀ x, f ≤ x → x < f + c → freeB hs x = v
/-- What a step makes of the holes. -/
def StepRel (n : Int) (hs hs' : List (Int × Int)) (kd fr ct : Int) : Prop :=
  (kd = 1 ∧ ((∃ A h C, hs = A ++ h :: C ∧ (∀ a ∈ A, a.2 < ct) ∧ ct ≤ h.2 ∧ 1 ≤ ct ∧ hs' = A ++ restF h (h.1, ct) ++ C) ∨ ((ct < 1 ∨ ∀ a ∈ hs, a.2 < ct) ∧ hs' = hs))) ∨
  (kd = 2 ∧ ((TakeOk n hs fr ct true ∧ ∀ x, freeB hs' x = (freeB hs x && !(decide (fr ≤ x) && decide (x < fr + ct)))) ∨ (¬ TakeOk n hs fr ct true ∧ hs' = hs))) ∨
  (kd = 3 ∧ ((TakeOk n hs fr ct false ∧ ∀ x, freeB hs' x = (freeB hs x || (decide (fr ≤ x) && decide (x < fr + ct)))) ∨ (¬ TakeOk n hs fr ct false ∧ hs' = hs))) ∨
  (kd ≠ 1 ∧ kd ≠ 2 ∧ kd ≠ 3 ∧ hs' = hs)
/-- What step may do to memory. -/
structure Step2 (w w' : World) (p u : Nat) (o o' : Option Nat) : Prop where
  upd : Upd (fun k => k = p ∨ o = some k ∨ k = u) w w'
  new : ∀ k, o' = some k → o = some k ∨ w.heap.size ≤ k
theorem Step2.of_below {w w' : World} {p u : Nat} {o : Option Nat} (h : Below w.heap.size w w') : Step2 w w' p u o o := ⟨Upd.of_new h, fun _ hk => .inl hk⟩
theorem Step2.of_both {w w1 w2 : World} {p u r : Nat} {o o' : Option Nat} {n f c : Int} {v : Bool} {us : List Bool} (h : SpStep w w1 p o o') (hr : RStep r u n us f c v w1 w2) : Step2 w w2 p u o o' := by
  obtain ⟨_, _, hu, _⟩ := hr
  refine ⟨(h.upd.mono (T := fun k => k = p ∨ o = some k ∨ k = u) (fun k _ hk => by rcases hk with h | h <;> simp [h])).trans hu (fun i _ hi => .inr (.inr hi)), h.new⟩
theorem Step2.alloc {w w' : World} {p u : Nat} {o o' : Option Nat} {ob : Obj} (h : Step2 (w.alloc ob) w' p u o o') : Step2 w w' p u o o' := by
  have hb := (Below.refl _ w).alloc (Nat.le_refl _) ob
  refine ⟨(Upd.of_new hb).trans h.upd (fun i _ hi => hi), fun k hk => ?_⟩
  rcases h.new k hk with h1 | h1
  · exact .inl h1
  · exact .inr (Nat.le_trans hb.size h1)

def StepPost2 (B : Nat) (w : World) (p r u : Nat) (o : Option Nat) (n : Int) (hs : List (Int × Int)) (kd fr ct : Int) (e : Ending) (w' : World) : Prop := e = .returned (.bool true) ∧ ∃ o' hs' us', Two B w' p o' n hs' r u us' ∧ Below B w w' ∧ Step2 w w' p u o o' ∧ StepRel n hs hs' kd fr ct
set_option maxHeartbeats 4000000 in
set_option maxRecDepth 100000 in
theorem step2_any (B : Nat) (w : World) (p r u : Nat) (o : Option Nat) (n : Int) (hs : List (Int × Int)) (us : List Bool) (kd fr ct : Int) (hB : B ≤ w.heap.size) (t : Two B w p o n hs r u us)
    (hf0 : -9223372036854775808 ≤ fr) (hf1 : fr ≤ 9223372036854775807) (hc0 : -9223372036854775808 ≤ ct) (hc1 : ct ≤ 9223372036854775807) :
    Calls Try.prog 21 #[.pointer (some ⟨p, 0, none⟩), .pointer (some ⟨r, 0, none⟩), .agg #[.int .i64 kd, .int .i64 fr, .int .i64 ct]] w (StepPost2 B w p r u o n hs kd fr ct) := by
  have hal := (Below.refl _ w).alloc (Nat.le_refl _) (.cells #[.int .i64 kd, .int .i64 fr, .int .i64 ct] 46)
  have Ta := hid (t.below hal)
  have hba := hid hal
  have xb := heap_alloc_new w (.cells #[.int .i64 kd, .int .i64 fr, .int .i64 ct] 46)
  have hxl := blk_lt xb
  have xc0 : (w.alloc (.cells #[.int .i64 kd, .int .i64 fr, .int .i64 ct] 46)).cell? ⟨w.heap.size, 0, none⟩ = some (.int .i64 kd) := by rw [blk_cell xb]; rfl
  have xc1 : (w.alloc (.cells #[.int .i64 kd, .int .i64 fr, .int .i64 ct] 46)).cell? ⟨w.heap.size, 1, none⟩ = some (.int .i64 fr) := by rw [blk_cell xb]; rfl
  have xc2 : (w.alloc (.cells #[.int .i64 kd, .int .i64 fr, .int .i64 ct] 46)).cell? ⟨w.heap.size, 2, none⟩ = some (.int .i64 ct) := by rw [blk_cell xb]; rfl
  have hxp : w.heap.size ≠ p := by have := t.sp.lt.1; omega
  have hxo : o ≠ some w.heap.size := fun he => by have := t.sp.lt.2 _ he; omega
  have hxu : w.heap.size ≠ u := by have := t.rf.open.2.1; omega
  have hpn := t.sp.n0
  clear hal t
  by_cases hk1 : kd = 1
  · subst hk1
    by_cases hct : ct < 1
    · go_enter Try.func21, Try.ntmps21
      go_wp2_with fail
      refine (alloc_bad p ct _ hct).mono ?_
      rintro e w1 ⟨rfl, hb1⟩
      have hab := (Below.refl _ w1).alloc (Nat.le_refl _) (.cells #[.int .i64 0, .int .i64 0] 31)
      have T1 := hid ((Ta.out.below hb1).below hab)
      have hb1' := hba.out.trans (hb1.mono hba.out.size)
      have hb1a := hb1'.trans (hab.mono hb1'.size)
      have hxl1 := Nat.lt_of_lt_of_le hxl hb1.size
      have c2 := (hab.cell (p := ⟨w.heap.size, 2, none⟩) hxl1).trans ((hb1.cell (p := ⟨w.heap.size, 2, none⟩) hxl).trans xc2)
      have yb := heap_alloc_new w1 (.cells #[.int .i64 0, .int .i64 0] 31)
      have hyl := blk_lt yb
      have Yb := hid yb
      unfold pairV
      clear hb1 hab hb1' xc0 xc1 xc2 yb
      go_wp2_with fail
      refine (ralloc_bad r ct _ hct).mono ?_
      rintro e w2 ⟨rfl, hb2⟩
      have T2 := hid (T1.out.below hb2)
      have hb2' := hb1a.trans (hb2.mono hb1a.size)
      have y2 := (hb2.block w1.heap.size hyl).trans Yb.out
      have z0 : w2.cell? ⟨w1.heap.size, 0, none⟩ = some (.int .i64 0) := by rw [blk_cell y2]; rfl
      have z1 : w2.cell? ⟨w1.heap.size, 1, none⟩ = some (.int .i64 0) := by rw [blk_cell y2]; rfl
      clear hb2 hb1a y2 Yb c2
      go_wp2_with fail
      go_ret
      exact ⟨rfl, o, hs, us, T2.out, hb2'.mono hB, Step2.of_below hb2', .inl ⟨rfl, .inr ⟨.inl hct, rfl⟩⟩⟩
    · go_enter Try.func21, Try.ntmps21
      go_wp2_with fail
      refine (alloc_good p o n ct hs _ Ta.out.sp (by omega) hc1).mono ?_
      rintro e w1 (⟨A, h, C, hhs, hA, hfit, rfl, o1, hsp1, hst1⟩ | ⟨hno, rfl, hb1⟩)
      · have hab := (Below.refl _ w1).alloc (Nat.le_refl _) (.cells #[.int .i64 h.1, .int .i64 ct] 31)
        have hst1a := hst1.trans (SpStep.of_below (o := o1) hab)
        have hsp1a := hsp1.below hab
        obtain ⟨hrf1, _, _, _, hb1⟩ := Ta.out.step hst1a (Nat.le_trans hB hba.out.size)
        obtain ⟨_, hxk⟩ := hst1a.aside hxp hxo hxl
        have hx6 := hxk.trans xb
        have c2 : (w1.alloc (.cells #[.int .i64 h.1, .int .i64 ct] 31)).cell? ⟨w.heap.size, 2, none⟩ = some (.int .i64 ct) := by rw [blk_cell hx6]; rfl
        have hxl6 := blk_lt hx6
        have yb := heap_alloc_new w1 (.cells #[.int .i64 h.1, .int .i64 ct] 31)
        have hyl := blk_lt yb
        have hyu : w1.heap.size ≠ u := by
          obtain ⟨hrf0, _⟩ := Ta.out.step hst1 (Nat.le_trans hB hba.out.size)
          have := hrf0.open.2.1
          omega
        have Yb := hid yb
        have Hrf := hid hrf1
        have Hsp1 := hid hsp1a
        have Hst1 := hid hst1a
        have Hhs := hid hhs
        have HA := hid hA
        have hbb := (hba.out.mono hB).trans hb1
        have hfl : 1 ≤ ct := by omega
        unfold pairV
        clear hab hst1 hst1a hsp1 hsp1a hrf1 hb1 hxk yb xc0 xc1 xc2 hhs hA
        go_wp2_with fail
        refine (ralloc_any r u n ct us hs _ Hrf.out Ta.out.sp.ok Ta.out.ag hfl).mono ?_
        rintro e w2 (⟨A', h', C', hhs', hA', hfit', rfl, hst2⟩ | ⟨hno, _⟩)
        · obtain ⟨rfl, rfl, rfl⟩ := first_unique (Hhs.out.symm.trans hhs') HA.out hfit hA' hfit'
          have hu2 : Upd (fun k => k = u) (w1.alloc (.cells #[.int .i64 h.1, .int .i64 ct] 31)) w2 := by obtain ⟨_, _, hu, _⟩ := hst2; exact hu
          have y2 := (hu2.block w1.heap.size hyl hyu).trans Yb.out
          have z0 : w2.cell? ⟨w1.heap.size, 0, none⟩ = some (.int .i64 h.1) := by rw [blk_cell y2]; rfl
          have z1 : w2.cell? ⟨w1.heap.size, 1, none⟩ = some (.int .i64 ct) := by rw [blk_cell y2]; rfl
          have c2' := (hu2.cell (p := ⟨w.heap.size, 2, none⟩) hxl6 hxu).trans c2
          have Hst2 := hid hst2
          have hok := Ta.out.sp.ok
          rw [Hhs.out] at hok
          have Hok := hid hok
          clear hu2 y2 Yb hst2 c2 hx6 hhs' hA' hfit' hok
          go_wp2_with fail
          go_ret
          obtain ⟨us', ht2, hb2⟩ := Ta.out.both Hst1.out (Nat.le_trans hB hba.out.size) Hsp1.out Hst2.out (fun x h0 h1 => by
            rw [cut_free (e := (h.1, ct)) Hok.out (Int.le_refl _) hfl (by simp only; omega) x, ← Hhs.out]
            by_cases hx : h.1 ≤ x ∧ x < h.1 + ct
            · rw [if_pos hx]; simp [hx.1, hx.2]
            · rw [if_neg hx]
              have : (decide (h.1 ≤ x) && decide (x < h.1 + ct)) = false := by simp; omega
              rw [this]; simp)
          exact ⟨rfl, o1, _, us', ht2, (hba.out.mono hB).trans hb2, (Step2.of_both Hst1.out Hst2.out).alloc, .inl ⟨rfl, .inl ⟨_, _, _, Hhs.out, HA.out, hfit, hfl, rfl⟩⟩⟩
        · have := hno h (by rw [Hhs.out]; simp)
          omega
      · have hab := (Below.refl _ w1).alloc (Nat.le_refl _) (.cells #[.int .i64 0, .int .i64 0] 31)
        have T1 := hid ((Ta.out.below hb1).below hab)
        have hb1' := hba.out.trans (hb1.mono hba.out.size)
        have hb1a := hb1'.trans (hab.mono hb1'.size)
        have hxl1 := Nat.lt_of_lt_of_le hxl hb1.size
        have c2 := (hab.cell (p := ⟨w.heap.size, 2, none⟩) hxl1).trans ((hb1.cell (p := ⟨w.heap.size, 2, none⟩) hxl).trans xc2)
        have yb := heap_alloc_new w1 (.cells #[.int .i64 0, .int .i64 0] 31)
        have hyl := blk_lt yb
        have Yb := hid yb
        have Hno := hid hno
        have hfl : 1 ≤ ct := by omega
        unfold pairV
        clear hb1 hab hb1' xc0 xc1 xc2 yb hno
        go_wp2_with fail
        refine (ralloc_any r u n ct us hs _ T1.out.rf T1.out.sp.ok T1.out.ag hfl).mono ?_
        rintro e w2 (⟨A', h', C', hhs', hA', hfit', rfl, hst2⟩ | ⟨_, rfl, hb2⟩)
        · have := Hno.out h' (by rw [hhs']; simp)
          omega
        · have T2 := hid (T1.out.below hb2)
          have hb2' := hb1a.trans (hb2.mono hb1a.size)
          have y2 := (hb2.block w1.heap.size hyl).trans Yb.out
          have z0 : w2.cell? ⟨w1.heap.size, 0, none⟩ = some (.int .i64 0) := by rw [blk_cell y2]; rfl
          have z1 : w2.cell? ⟨w1.heap.size, 1, none⟩ = some (.int .i64 0) := by rw [blk_cell y2]; rfl
          clear hb2 hb1a y2 Yb c2
          go_wp2_with fail
          go_ret
          exact ⟨rfl, o, hs, us, T2.out, hb2'.mono hB, Step2.of_below hb2', .inl ⟨rfl, .inr ⟨.inr Hno.out, rfl⟩⟩⟩
  by_cases hk2 : kd = 2
  · subst hk2
    go_enter Try.func21, Try.ntmps21
    go_wp2_with fail
    refine (take_any p o n fr ct hs _ Ta.out.sp).mono ?_
    rintro e w1 (⟨hi, rfl, hb1⟩ | ⟨hi, ⟨x, hx1, hx2, hx3⟩, rfl, hb1⟩ | ⟨hi, hall, hs', hok', hfr', rfl, o1, hsp1, hst1⟩)
    · have T1 := hid (Ta.out.below hb1)
      have c1 := (hb1.cell (p := ⟨w.heap.size, 1, none⟩) hxl).trans xc1
      have c2 := (hb1.cell (p := ⟨w.heap.size, 2, none⟩) hxl).trans xc2
      have hb1' := hba.out.trans (hb1.mono hba.out.size)
      have Hi := hid hi
      clear hb1 hi xc0 xc1 xc2
      go_wp2_with fail
      refine (rtake_any r u n fr ct us hs w1 T1.out.rf T1.out.ag hf0 hc0 hf1 hc1).mono ?_
      rintro e w2 (⟨_, rfl, hb2⟩ | ⟨hi2, _⟩ | ⟨hi2, _⟩)
      · have T2 := hid (T1.out.below hb2)
        have hb2' := hb1'.trans (hb2.mono hb1'.size)
        clear hb2 hb1'
        go_wp2_with fail
        go_ret
        exact ⟨rfl, o, hs, us, T2.out, hb2'.mono hB, Step2.of_below hb2', .inr (.inl ⟨rfl, .inr ⟨fun h => (by have := h.1; rw [Hi.out] at this; cases this), rfl⟩⟩)⟩
      · rw [Hi.out] at hi2; cases hi2
      · rw [Hi.out] at hi2; cases hi2
    · have T1 := hid (Ta.out.below hb1)
      have c1 := (hb1.cell (p := ⟨w.heap.size, 1, none⟩) hxl).trans xc1
      have c2 := (hb1.cell (p := ⟨w.heap.size, 2, none⟩) hxl).trans xc2
      have hb1' := hba.out.trans (hb1.mono hba.out.size)
      have Hi := hid hi
      clear hb1 hi xc0 xc1 xc2
      go_wp2_with fail
      refine (rtake_any r u n fr ct us hs w1 T1.out.rf T1.out.ag hf0 hc0 hf1 hc1).mono ?_
      rintro e w2 (⟨hi2, _⟩ | ⟨_, _, rfl, hb2⟩ | ⟨_, hall2, _⟩)
      · rw [Hi.out] at hi2; cases hi2
      · have T2 := hid (T1.out.below hb2)
        have hb2' := hb1'.trans (hb2.mono hb1'.size)
        clear hb2 hb1'
        go_wp2_with fail
        go_ret
        exact ⟨rfl, o, hs, us, T2.out, hb2'.mono hB, Step2.of_below hb2', .inr (.inl ⟨rfl, .inr ⟨fun h => (by rw [h.2 x hx1 hx2] at hx3; cases hx3), rfl⟩⟩)⟩
      · rw [hall2 x hx1 hx2] at hx3; cases hx3
    · obtain ⟨hrf1, _, _, _, hb1⟩ := Ta.out.step hst1 (Nat.le_trans hB hba.out.size)
      obtain ⟨_, hxk⟩ := hst1.aside hxp hxo hxl
      have hx6 := hxk.trans xb
      have c1 : w1.cell? ⟨w.heap.size, 1, none⟩ = some (.int .i64 fr) := by rw [blk_cell hx6]; rfl
      have c2 : w1.cell? ⟨w.heap.size, 2, none⟩ = some (.int .i64 ct) := by rw [blk_cell hx6]; rfl
      have hb1' := (hba.out.mono hB).trans hb1
      have Hi := hid hi
      have Hrf1 := hid hrf1
      have Hall := hid hall
      have Hsp1 := hid hsp1
      have Hst1 := hid hst1
      have Hfr := hid hfr'
      clear hb1 hi xc0 xc1 xc2 hrf1 hall hsp1 hst1 hok' hfr' hx6 hxk
      go_wp2_with fail
      refine (rtake_any r u n fr ct us hs w1 Hrf1.out Ta.out.ag hf0 hc0 hf1 hc1).mono ?_
      rintro e w2 (⟨hi2, _⟩ | ⟨_, ⟨x, hx1, hx2, hx3⟩, _⟩ | ⟨_, _, rfl, hst2⟩)
      · rw [Hi.out] at hi2; cases hi2
      · rw [Hall.out x hx1 hx2] at hx3; cases hx3
      · have Hst2 := hid hst2
        clear hst2
        go_wp2_with fail
        go_ret
        obtain ⟨us', ht2, hb2⟩ := Ta.out.both Hst1.out (Nat.le_trans hB hba.out.size) Hsp1.out Hst2.out (fun x h0 h1 => by
          rw [Hfr.out]
          by_cases hx : fr ≤ x ∧ x < fr + ct
          · rw [if_pos hx]; simp [hx.1, hx.2]
          · rw [if_neg hx]
            have : (decide (fr ≤ x) && decide (x < fr + ct)) = false := by simp; omega
            rw [this]; simp)
        exact ⟨rfl, o1, hs', us', ht2, (hba.out.mono hB).trans hb2, (Step2.of_both Hst1.out Hst2.out).alloc, .inr (.inl ⟨rfl, .inl ⟨⟨Hi.out, Hall.out⟩, Hfr.out⟩⟩)⟩
  by_cases hk3 : kd = 3
  · subst hk3
    go_enter Try.func21, Try.ntmps21
    go_wp2_with fail
    refine (free_any p o n fr ct hs _ Ta.out.sp).mono ?_
    rintro e w1 (⟨hi, rfl, hb1⟩ | ⟨hi, ⟨x, hx1, hx2, hx3⟩, rfl, hb1⟩ | ⟨hi, hall, hs', hok', hfr', rfl, o1, hsp1, hst1⟩)
    · have T1 := hid (Ta.out.below hb1)
      have c1 := (hb1.cell (p := ⟨w.heap.size, 1, none⟩) hxl).trans xc1
      have c2 := (hb1.cell (p := ⟨w.heap.size, 2, none⟩) hxl).trans xc2
      have hb1' := hba.out.trans (hb1.mono hba.out.size)
      have Hi := hid hi
      clear hb1 hi xc0 xc1 xc2
      go_wp2_with fail
      refine (rfree_any r u n fr ct us hs w1 T1.out.rf T1.out.ag hf0 hc0 hf1 hc1).mono ?_
      rintro e w2 (⟨_, rfl, hb2⟩ | ⟨hi2, _⟩ | ⟨hi2, _⟩)
      · have T2 := hid (T1.out.below hb2)
        have hb2' := hb1'.trans (hb2.mono hb1'.size)
        clear hb2 hb1'
        go_wp2_with fail
        go_ret
        exact ⟨rfl, o, hs, us, T2.out, hb2'.mono hB, Step2.of_below hb2', .inr (.inr (.inl ⟨rfl, .inr ⟨fun h => (by have := h.1; rw [Hi.out] at this; cases this), rfl⟩⟩))⟩
      · rw [Hi.out] at hi2; cases hi2
      · rw [Hi.out] at hi2; cases hi2
    · have T1 := hid (Ta.out.below hb1)
      have c1 := (hb1.cell (p := ⟨w.heap.size, 1, none⟩) hxl).trans xc1
      have c2 := (hb1.cell (p := ⟨w.heap.size, 2, none⟩) hxl).trans xc2
      have hb1' := hba.out.trans (hb1.mono hba.out.size)
      have Hi := hid hi
      clear hb1 hi xc0 xc1 xc2
      go_wp2_with fail
      refine (rfree_any r u n fr ct us hs w1 T1.out.rf T1.out.ag hf0 hc0 hf1 hc1).mono ?_
      rintro e w2 (⟨hi2, _⟩ | ⟨_, _, rfl, hb2⟩ | ⟨_, hall2, _⟩)
      · rw [Hi.out] at hi2; cases hi2
      · have T2 := hid (T1.out.below hb2)
        have hb2' := hb1'.trans (hb2.mono hb1'.size)
        clear hb2 hb1'
        go_wp2_with fail
        go_ret
        exact ⟨rfl, o, hs, us, T2.out, hb2'.mono hB, Step2.of_below hb2', .inr (.inr (.inl ⟨rfl, .inr ⟨fun h => (by rw [h.2 x hx1 hx2] at hx3; cases hx3), rfl⟩⟩))⟩
      · rw [hall2 x hx1 hx2] at hx3; cases hx3
    · obtain ⟨hrf1, _, _, _, hb1⟩ := Ta.out.step hst1 (Nat.le_trans hB hba.out.size)
      obtain ⟨_, hxk⟩ := hst1.aside hxp hxo hxl
      have hx6 := hxk.trans xb
      have c1 : w1.cell? ⟨w.heap.size, 1, none⟩ = some (.int .i64 fr) := by rw [blk_cell hx6]; rfl
      have c2 : w1.cell? ⟨w.heap.size, 2, none⟩ = some (.int .i64 ct) := by rw [blk_cell hx6]; rfl
      have hb1' := (hba.out.mono hB).trans hb1
      have Hi := hid hi
      have Hrf1 := hid hrf1
      have Hall := hid hall
      have Hsp1 := hid hsp1
      have Hst1 := hid hst1
      have Hfr := hid hfr'
      clear hb1 hi xc0 xc1 xc2 hrf1 hall hsp1 hst1 hok' hfr' hx6 hxk
      go_wp2_with fail
      refine (rfree_any r u n fr ct us hs w1 Hrf1.out Ta.out.ag hf0 hc0 hf1 hc1).mono ?_
      rintro e w2 (⟨hi2, _⟩ | ⟨_, ⟨x, hx1, hx2, hx3⟩, _⟩ | ⟨_, _, rfl, hst2⟩)
      · rw [Hi.out] at hi2; cases hi2
      · rw [Hall.out x hx1 hx2] at hx3; cases hx3
      · have Hst2 := hid hst2
        clear hst2
        go_wp2_with fail
        go_ret
        obtain ⟨us', ht2, hb2⟩ := Ta.out.both Hst1.out (Nat.le_trans hB hba.out.size) Hsp1.out Hst2.out (fun x h0 h1 => by
          rw [Hfr.out]
          by_cases hx : fr ≤ x ∧ x < fr + ct
          · rw [if_pos hx]; simp [hx.1, hx.2]
          · rw [if_neg hx]
            have : (decide (fr ≤ x) && decide (x < fr + ct)) = false := by simp; omega
            rw [this]; simp)
        exact ⟨rfl, o1, hs', us', ht2, (hba.out.mono hB).trans hb2, (Step2.of_both Hst1.out Hst2.out).alloc, .inr (.inr (.inl ⟨rfl, .inl ⟨⟨Hi.out, Hall.out⟩, Hfr.out⟩⟩))⟩
  by_cases hk4 : kd = 4
  · subst hk4
    go_enter Try.func21, Try.ntmps21
    go_wp2_with fail
    refine (tells_any _ p r u o n hs us Ta.out.sp Ta.out.rf Ta.out.ag).mono ?_
    rintro e w1 ⟨rfl, hb1⟩
    have T1 := hid (Ta.out.below hb1)
    have hb1' := hba.out.trans (hb1.mono hba.out.size)
    clear hb1
    go_wp2_with fail
    go_ret
    exact ⟨rfl, o, hs, us, T1.out, hb1'.mono hB, Step2.of_below hb1', .inr (.inr (.inr ⟨by decide, by decide, by decide, rfl⟩))⟩
  have e1 : (kd == 1) = false := by simpa using hk1
  have e2 : (kd == 2) = false := by simpa using hk2
  have e3 : (kd == 3) = false := by simpa using hk3
  have e4 : (kd == 4) = false := by simpa using hk4
  have Hk := hid (show kd ≠ 1 ∧ kd ≠ 2 ∧ kd ≠ 3 from ⟨hk1, hk2, hk3⟩)
  clear hk1 hk2 hk3 hk4
  go_enter Try.func21, Try.ntmps21
  go_wp2_with fail
  go_ret
  exact ⟨rfl, o, hs, us, Ta.out, hba.out.mono hB, Step2.of_below hba.out, .inr (.inr (.inr ⟨Hk.out.1, Hk.out.2.1, Hk.out.2.2, rfl⟩))⟩
end Go.Proofs.Ytedalcocdgmigaa
