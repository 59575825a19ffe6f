-- PRINTED BY print.sh 35421559b90ae4d0a3588c463048766b98c2df88dd9212a6774a882060cdf62d: not written by this session
import Derived.Test.YtedalcocdgmigaaPExtsortPassesx0
namespace Go.Proofs.Ytedalcocdgmigaa.PExtsortPasses
open Go.RowKit Go.Proofs.YtedalcocdgmigaaW.PrintWords Go.Proofs.YtedalcocdgmigaaW.PrintLast Go.Proofs.YtedalcocdgmigaaW.PrintMore
attribute [local go_sem] max2_int min2_int max_two min_two max_three min_three max_four min_four   -- for this text's walks alone
set_option linter.unusedVariables false
set_option linter.unusedSimpArgs false

/-! ### extsort_Passes: function 10 -/
def extsort_Passes.l0 : Nat → Int → Int → Int → Option (Int)
  | 0, _, _, _ => none
  | k + 1, x1, x5, x6 => if x1 ≥ 2 then (if x1 ≤ 64 then (if x6 > 1 then (if x1 = 0 then (none) else (extsort_Passes.l0 k x1 (wrap64 (x5 + 1)) (wrap64 ((wrap64 (Int.tdiv (wrap64 (x6 - 1)) x1)) + 1)))) else (some x5)) else (some x5)) else (some x5)
def extsort_Passes.f (k : Nat) (a0 : Int) (a1 : Int) : Option (Int) := extsort_Passes.l0 k a1 0 a0
theorem extsort_Passes.mono_l : ∀ k, (∀ y0 y1 y2, LeO (extsort_Passes.l0 k y0 y1 y2) (extsort_Passes.l0 (k + 1) y0 y1 y2))
  | 0 => fun _ _ _ r h => by simp [extsort_Passes.l0] at h
  | k + 1 => by
    have ih0 := extsort_Passes.mono_l k
    · intro y0 y1 y2
      unfold extsort_Passes.l0
      repeat' first
      | (with_reducible exact ih0 _ _ _)
      | (with_reducible exact LeO.refl _)
      | (with_reducible exact LeO.none _)
      | (with_reducible refine LeO.ite ?_ ?_)
      | (with_reducible refine LeO.bind ?_ (fun _ => ?_))
      | exact ih0 _ _ _
      | exact LeO.none _
      | refine LeO.ite ?_ ?_
      | refine LeO.bind ?_ (fun _ => ?_)
theorem extsort_Passes.mono : ∀ a0 a1 k, LeO (extsort_Passes.f k a0 a1) (extsort_Passes.f (k + 1) a0 a1) := by
  intro a0 a1 k
  have ih0 := extsort_Passes.mono_l k
  unfold extsort_Passes.f
  repeat' first
      | (with_reducible exact ih0 _ _ _)
      | (with_reducible exact LeO.refl _)
      | (with_reducible exact LeO.none _)
      | (with_reducible refine LeO.ite ?_ ?_)
      | (with_reducible refine LeO.bind ?_ (fun _ => ?_))
      | exact ih0 _ _ _
      | exact LeO.none _
      | refine LeO.ite ?_ ?_
      | refine LeO.bind ?_ (fun _ => ?_)
set_option maxHeartbeats 8000000 in
set_option maxRecDepth 100000 in
theorem extsort_Passes.calls (k : Nat) (a0 : Int) (a1 : Int) (r : Int) (w : World) (h : extsort_Passes.f k a0 a1 = some r) :
    Calls Try.prog 10 #[.int .i64 a0, .int .i64 a1] w fun e w' => e = .returned (.int .i64 r) ∧ Drawn0 w w' := by
  have H : (extsort_Passes.l0 k a1 0 a0) = some r := h
  clear h
  have H' := Aside0.mk H
  clear H
  go_enter Try.func10, Try.ntmps10
  go_wp2
  go_loopg [5, 6] k (fun kq v5 v6 w' => ∃ (x5_1 : Int) (x6_1 : Int), v5 = .int .i64 x5_1 ∧ v6 = .int .i64 x6_1 ∧ Aside0 (extsort_Passes.l0 kq a1 x5_1 x6_1 = some r) ∧ Aside0 (kq ≤ k) ∧ Drawn0 w w')
  case atStart => exact ⟨(0), (a0), (by first | rfl | (simp; done) | (simp [*]; done)), (by first | rfl | (simp; done) | (simp [*]; done)), H', ⟨Nat.le_refl _⟩, by repeat (first | exact Drawn0.refl _ | apply Drawn0.step)⟩
  case round =>
    clear H'
    try clear c1
    try clear p2
    obtain ⟨x5_1, x6_1, rfl, rfl, HA, HK1, ⟨m1, rfl⟩⟩ := hrel
    cases gk with
    | zero => exact absurd HA.out (by simp [extsort_Passes.l0])
    | succ k1 =>
      have H := HA.out
      clear HA
      simp only [extsort_Passes.l0] at H
      by_cases c3 : a1 ≥ 2
      · rw [if_pos c3] at H
        have c3b0 : decide (2 ≤ a1) = true := decide_eq_true c3
        clear c3
        by_cases c4 : a1 ≤ 64
        · rw [if_pos c4] at H
          have c4b0 : decide (a1 ≤ 64) = true := decide_eq_true c4
          clear c4
          by_cases c5 : x6_1 > 1
          · rw [if_pos c5] at H
            have c5b0 : decide (1 < x6_1) = true := decide_eq_true c5
            clear c5
            by_cases c6 : a1 = 0
            · rw [if_pos c6] at H
              exact absurd H (by simp)
            · rw [if_neg c6] at H
              have c6b0 : (a1 == 0) = false := beq_eq_false_iff_ne.mpr c6
              have c6b1 : (a1 != 0) = true := bne_iff_ne.mpr c6
              have H' := Aside0.mk H
              clear H
              go_wp2
              go_roundg k1
              case measure => have := HK1.out; omega
              case rel => exact ⟨(wrap64 (x5_1 + 1)), (wrap64 ((wrap64 (Int.tdiv (wrap64 (x6_1 - 1)) a1)) + 1)), (by first | rfl | (simp; done) | (simp [*]; done)), (by first | rfl | (simp; done) | (simp [*]; done)), H', ⟨by have := HK1.out; omega⟩, by repeat (first | exact Drawn0.refl _ | apply Drawn0.step)⟩
          · rw [if_neg c5] at H
            have c5b0 : decide (1 < x6_1) = false := decide_eq_false c5
            clear c5
            obtain rfl := Option.some.inj H
            go_wp2
            go_ret
            exact ⟨by first | rfl | (simp; done) | (simp [*]; done), by repeat (first | exact Drawn0.refl _ | apply Drawn0.step)⟩
        · rw [if_neg c4] at H
          have c4b0 : decide (a1 ≤ 64) = false := decide_eq_false c4
          clear c4
          obtain rfl := Option.some.inj H
          go_wp2
          go_ret
          exact ⟨by first | rfl | (simp; done) | (simp [*]; done), by repeat (first | exact Drawn0.refl _ | apply Drawn0.step)⟩
      · rw [if_neg c3] at H
        have c3b0 : decide (2 ≤ a1) = false := decide_eq_false c3
        clear c3
        obtain rfl := Option.some.inj H
        go_wp2
        go_ret
        exact ⟨by first | rfl | (simp; done) | (simp [*]; done), by repeat (first | exact Drawn0.refl _ | apply Drawn0.step)⟩

/-! ### proctorref12_Passes: function 11 -/
mutual
def proctorref12_Passes.j0 : Nat → Int → Int → Bool → Option (Int)
  | 0, _, _, _ => none
  | k + 1, x0, x1, x12 => if x12 = true then (some 0) else (proctorref12_Passes.l0 k x0 x1 0 1)
def proctorref12_Passes.l0 : Nat → Int → Int → Int → Int → Option (Int)
  | 0, _, _, _, _ => none
  | k + 1, x0, x1, x5, x6 => if x6 < x0 then (if x1 = 0 then (none) else (if x6 > (wrap64 (Int.tdiv x0 x1)) then (some (wrap64 (x5 + 1))) else (proctorref12_Passes.l0 k x0 x1 (wrap64 (x5 + 1)) (wrap64 (x6 * x1))))) else (some x5)
end
def proctorref12_Passes.f (k : Nat) (a0 : Int) (a1 : Int) : Option (Int) := if a1 < 2 then (proctorref12_Passes.j0 k a0 a1 true) else (proctorref12_Passes.j0 k a0 a1 (decide (a1 > 64)))
theorem proctorref12_Passes.mono_l : ∀ k, (∀ y0 y1 y2, LeO (proctorref12_Passes.j0 k y0 y1 y2) (proctorref12_Passes.j0 (k + 1) y0 y1 y2)) ∧ (∀ y0 y1 y2 y3, LeO (proctorref12_Passes.l0 k y0 y1 y2 y3) (proctorref12_Passes.l0 (k + 1) y0 y1 y2 y3))
  | 0 => ⟨fun _ _ _ r h => by simp [proctorref12_Passes.j0] at h, fun _ _ _ _ r h => by simp [proctorref12_Passes.l0] at h⟩
  | k + 1 => by
    obtain ⟨ih0, ih1⟩ := proctorref12_Passes.mono_l k
    refine ⟨?_, ?_⟩
    · intro y0 y1 y2
      unfold proctorref12_Passes.j0
      repeat' first
      | (with_reducible exact ih0 _ _ _)
      | (with_reducible exact ih1 _ _ _ _)
      | (with_reducible exact LeO.refl _)
      | (with_reducible exact LeO.none _)
      | (with_reducible refine LeO.ite ?_ ?_)
      | (with_reducible refine LeO.bind ?_ (fun _ => ?_))
      | exact ih0 _ _ _
      | exact ih1 _ _ _ _
      | exact LeO.none _
      | refine LeO.ite ?_ ?_
      | refine LeO.bind ?_ (fun _ => ?_)
    · intro y0 y1 y2 y3
      unfold proctorref12_Passes.l0
      repeat' first
      | (with_reducible exact ih0 _ _ _)
      | (with_reducible exact ih1 _ _ _ _)
      | (with_reducible exact LeO.refl _)
      | (with_reducible exact LeO.none _)
      | (with_reducible refine LeO.ite ?_ ?_)
      | (with_reducible refine LeO.bind ?_ (fun _ => ?_))
      | exact ih0 _ _ _
      | exact ih1 _ _ _ _
      | exact LeO.none _
      | refine LeO.ite ?_ ?_
      | refine LeO.bind ?_ (fun _ => ?_)
theorem proctorref12_Passes.mono : ∀ a0 a1 k, LeO (proctorref12_Passes.f k a0 a1) (proctorref12_Passes.f (k + 1) a0 a1) := by
  intro a0 a1 k
  obtain ⟨ih0, ih1⟩ := proctorref12_Passes.mono_l k
  unfold proctorref12_Passes.f
  repeat' first
      | (with_reducible exact ih0 _ _ _)
      | (with_reducible exact ih1 _ _ _ _)
      | (with_reducible exact LeO.refl _)
      | (with_reducible exact LeO.none _)
      | (with_reducible refine LeO.ite ?_ ?_)
      | (with_reducible refine LeO.bind ?_ (fun _ => ?_))
      | exact ih0 _ _ _
      | exact ih1 _ _ _ _
      | exact LeO.none _
      | refine LeO.ite ?_ ?_
      | refine LeO.bind ?_ (fun _ => ?_)
set_option maxHeartbeats 8000000 in
set_option maxRecDepth 100000 in
theorem proctorref12_Passes.calls (k : Nat) (a0 : Int) (a1 : Int) (r : Int) (w : World) (h : proctorref12_Passes.f k a0 a1 = some r) :
    Calls Try.prog 11 #[.int .i64 a0, .int .i64 a1] w fun e w' => e = .returned (.int .i64 r) ∧ Drawn0 w w' := by
  have H : (if a1 < 2 then (proctorref12_Passes.j0 k a0 a1 true) else (proctorref12_Passes.j0 k a0 a1 (decide (a1 > 64)))) = some r := h
  clear h
  have HC3 := Aside0.mk H
  clear H
  go_enter Try.func11, Try.ntmps11
  go_upto_region 1 with (fail)
  go_cut [12] (fun v12 wc => ∃ (kq : Nat) (x12_2 : Bool), v12 = .bool x12_2 ∧ Aside0 (proctorref12_Passes.j0 kq a0 a1 x12_2 = some r) ∧ Aside0 (kq ≤ k) ∧ Drawn0 w wc)
  case first =>
    have H := HC3.out
    clear HC3
    by_cases c4 : a1 < 2
    · rw [if_pos c4] at H
      have c4b0 : decide (a1 < 2) = true := decide_eq_true c4
      clear c4
      (first | rw [c4b0] | (simp only [i64_w, i32_w]; rw [c4b0]) | skip)
      have H' := Aside0.mk H
      clear H
      go_wp2
      go_meet
      case rel => exact ⟨_, (true), (by first | rfl | (simp; done) | (simp [*]; done)), H', ⟨by first | omega | exact Nat.le_refl _⟩, by repeat (first | exact Drawn0.refl _ | apply Drawn0.step)⟩
    · rw [if_neg c4] at H
      have c4b0 : decide (a1 < 2) = false := decide_eq_false c4
      clear c4
      (first | rw [c4b0] | (simp only [i64_w, i32_w]; rw [c4b0]) | skip)
      have H' := Aside0.mk H
      clear H
      go_wp2
      go_meet
      case rel => exact ⟨_, (decide (a1 > 64)), (by first | rfl | (simp; done) | (simp [*]; done)), H', ⟨by first | omega | exact Nat.le_refl _⟩, by repeat (first | exact Drawn0.refl _ | apply Drawn0.step)⟩
  case rest =>
    clear HC3
    try clear c1
    try clear p2
    try clear c4
    try clear c4b0
    obtain ⟨kq, x12_2, rfl, HA, HJ2, ⟨mc2, rfl⟩⟩ := hcut
    cases kq with
    | zero => exact absurd HA.out (by simp [proctorref12_Passes.j0])
    | succ kj2 =>
      have H := HA.out
      clear HA
      simp only [proctorref12_Passes.j0] at H
      by_cases c5 : x12_2 = true
      · subst c5
        have H1 : (some 0) = some r := by rw [if_pos rfl] at H; exact H
        clear H
        have H := H1
        clear H1
        obtain rfl := Option.some.inj H
        go_wp2
        go_ret
        exact ⟨by first | rfl | (simp; done) | (simp [*]; done), by repeat (first | exact Drawn0.refl _ | apply Drawn0.step)⟩
      · replace c5 := Bool.eq_false_iff.mpr c5
        subst c5
        have H1 : (proctorref12_Passes.l0 kj2 a0 a1 0 1) = some r := by rw [if_neg (show ¬ (false = true) by decide)] at H; exact H
        clear H
        have H := H1
        clear H1
        have H' := Aside0.mk H
        clear H
        go_wp2
        go_loopg [5, 6] kj2 (fun kq v5 v6 w' => ∃ (x5_2 : Int) (x6_2 : Int), v5 = .int .i64 x5_2 ∧ v6 = .int .i64 x6_2 ∧ Aside0 (proctorref12_Passes.l0 kq a0 a1 x5_2 x6_2 = some r) ∧ Aside0 (kq ≤ kj2) ∧ Drawn0 w w')
        case atStart => exact ⟨(0), (1), (by first | rfl | (simp; done) | (simp [*]; done)), (by first | rfl | (simp; done) | (simp [*]; done)), H', ⟨Nat.le_refl _⟩, by repeat (first | exact Drawn0.refl _ | apply Drawn0.step)⟩
        case round =>
          clear H'
          try clear c1
          try clear c2
          try clear p2
          try clear c4
          try clear c4b0
          try clear c5
          try clear p2
          obtain ⟨x5_2, x6_2, rfl, rfl, HA, HK2, ⟨m2, rfl⟩⟩ := hrel
          cases gk with
          | zero => exact absurd HA.out (by simp [proctorref12_Passes.l0])
          | succ k2 =>
            have H := HA.out
            clear HA
            simp only [proctorref12_Passes.l0] at H
            by_cases c6 : x6_2 < a0
            · rw [if_pos c6] at H
              have c6b0 : decide (x6_2 < a0) = true := decide_eq_true c6
              clear c6
              by_cases c7 : a1 = 0
              · rw [if_pos c7] at H
                exact absurd H (by simp)
              · rw [if_neg c7] at H
                have c7b0 : (a1 == 0) = false := beq_eq_false_iff_ne.mpr c7
                have c7b1 : (a1 != 0) = true := bne_iff_ne.mpr c7
                by_cases c8 : x6_2 > (wrap64 (Int.tdiv a0 a1))
                · rw [if_pos c8] at H
                  have c8b0 : decide ((wrap64 (Int.tdiv a0 a1)) < x6_2) = true := decide_eq_true c8
                  clear c8
                  obtain rfl := Option.some.inj H
                  go_wp2
                  go_ret
                  exact ⟨by first | rfl | (simp; done) | (simp [*]; done), by repeat (first | exact Drawn0.refl _ | apply Drawn0.step)⟩
                · rw [if_neg c8] at H
                  have c8b0 : decide ((wrap64 (Int.tdiv a0 a1)) < x6_2) = false := decide_eq_false c8
                  clear c8
                  have H' := Aside0.mk H
                  clear H
                  go_wp2
                  go_roundg k2
                  case measure => have := HJ2.out; have := HK2.out; omega
                  case rel => exact ⟨(wrap64 (x5_2 + 1)), (wrap64 (x6_2 * a1)), (by first | rfl | (simp; done) | (simp [*]; done)), (by first | rfl | (simp; done) | (simp [*]; done)), H', ⟨by have := HJ2.out; have := HK2.out; omega⟩, by repeat (first | exact Drawn0.refl _ | apply Drawn0.step)⟩
            · rw [if_neg c6] at H
              have c6b0 : decide (x6_2 < a0) = false := decide_eq_false c6
              clear c6
              obtain rfl := Option.some.inj H
              go_wp2
              go_ret
              exact ⟨by first | rfl | (simp; done) | (simp [*]; done), by repeat (first | exact Drawn0.refl _ | apply Drawn0.step)⟩

/-! ### proctorlaw12_ExtsortPasses: function 3 -/
mutual
def proctorlaw12_ExtsortPasses.j0 : Nat → Int → Int → Int → Bool → Option (Bool)
  | 0, _, _, _, _ => none
  | k + 1, x0, x1, x5, x22 => if x22 = true then (some (x5 == 0)) else (if x5 < 1 then (proctorlaw12_ExtsortPasses.j1 k x0 x1 x5 true) else (if x5 > 63 then (proctorlaw12_ExtsortPasses.j1 k x0 x1 x5 true) else ((proctorref12_Passes.f k x0 x1).bind fun t103 => (proctorlaw12_ExtsortPasses.j1 k x0 x1 x5 (x5 != t103)))))
def proctorlaw12_ExtsortPasses.j1 : Nat → Int → Int → Int → Bool → Option (Bool)
  | 0, _, _, _, _ => none
  | k + 1, x0, x1, x5, x37 => if x37 = true then (some false) else (proctorlaw12_ExtsortPasses.l0 k x0 x1 x5 x0 0)
def proctorlaw12_ExtsortPasses.l0 : Nat → Int → Int → Int → Int → Int → Option (Bool)
  | 0, _, _, _, _, _ => none
  | k + 1, x0, x1, x5, x6, x7 => if x7 < x5 then (if x6 < 2 then (some false) else (if x1 = 0 then (none) else (proctorlaw12_ExtsortPasses.l0 k x0 x1 x5 (wrap64 ((wrap64 (Int.tdiv (wrap64 (x6 - 1)) x1)) + 1)) (wrap64 (x7 + 1))))) else (if x6 = 1 then (if x1 = 0 then (none) else ((extsort_Passes.f k (wrap64 ((wrap64 (Int.tdiv (wrap64 (x0 - 1)) x1)) + 1)) x1).bind fun t104 => (some (t104 == (wrap64 (x5 - 1)))))) else (some false))
end
def proctorlaw12_ExtsortPasses.f (k : Nat) (a0 : Int) (a1 : Int) : Option (Bool) := (extsort_Passes.f k 65 8).bind fun t101 => (if t101 = 3 then ((extsort_Passes.f k a0 a1).bind fun t102 => (if a1 < 2 then (proctorlaw12_ExtsortPasses.j0 k a0 a1 t102 true) else (if a1 > 64 then (proctorlaw12_ExtsortPasses.j0 k a0 a1 t102 true) else (proctorlaw12_ExtsortPasses.j0 k a0 a1 t102 (decide (a0 < 2)))))) else (some false))
theorem proctorlaw12_ExtsortPasses.mono_l : ∀ k, (∀ y0 y1 y2 y3, LeO (proctorlaw12_ExtsortPasses.j0 k y0 y1 y2 y3) (proctorlaw12_ExtsortPasses.j0 (k + 1) y0 y1 y2 y3)) ∧ (∀ y0 y1 y2 y3, LeO (proctorlaw12_ExtsortPasses.j1 k y0 y1 y2 y3) (proctorlaw12_ExtsortPasses.j1 (k + 1) y0 y1 y2 y3)) ∧ (∀ y0 y1 y2 y3 y4, LeO (proctorlaw12_ExtsortPasses.l0 k y0 y1 y2 y3 y4) (proctorlaw12_ExtsortPasses.l0 (k + 1) y0 y1 y2 y3 y4))
  | 0 => ⟨fun _ _ _ _ r h => by simp [proctorlaw12_ExtsortPasses.j0] at h, fun _ _ _ _ r h => by simp [proctorlaw12_ExtsortPasses.j1] at h, fun _ _ _ _ _ r h => by simp [proctorlaw12_ExtsortPasses.l0] at h⟩
  | k + 1 => by
    obtain ⟨ih0, ih1, ih2⟩ := proctorlaw12_ExtsortPasses.mono_l k
    refine ⟨?_, ?_, ?_⟩
    · intro y0 y1 y2 y3
      unfold proctorlaw12_ExtsortPasses.j0
      repeat' first
      | (with_reducible exact ih0 _ _ _ _)
      | (with_reducible exact ih1 _ _ _ _)
      | (with_reducible exact ih2 _ _ _ _ _)
      | (with_reducible exact extsort_Passes.mono _ _ _)
      | (with_reducible exact proctorref12_Passes.mono _ _ _)
      | (with_reducible exact LeO.refl _)
      | (with_reducible exact LeO.none _)
      | (with_reducible refine LeO.ite ?_ ?_)
      | (with_reducible refine LeO.bind ?_ (fun _ => ?_))
      | exact ih0 _ _ _ _
      | exact ih1 _ _ _ _
      | exact ih2 _ _ _ _ _
      | exact extsort_Passes.mono _ _ _
      | exact proctorref12_Passes.mono _ _ _
      | exact LeO.none _
      | refine LeO.ite ?_ ?_
      | refine LeO.bind ?_ (fun _ => ?_)
    · intro y0 y1 y2 y3
      unfold proctorlaw12_ExtsortPasses.j1
      repeat' first
      | (with_reducible exact ih0 _ _ _ _)
      | (with_reducible exact ih1 _ _ _ _)
      | (with_reducible exact ih2 _ _ _ _ _)
      | (with_reducible exact extsort_Passes.mono _ _ _)
      | (with_reducible exact proctorref12_Passes.mono _ _ _)
      | (with_reducible exact LeO.refl _)
      | (with_reducible exact LeO.none _)
      | (with_reducible refine LeO.ite ?_ ?_)
      | (with_reducible refine LeO.bind ?_ (fun _ => ?_))
      | exact ih0 _ _ _ _
      | exact ih1 _ _ _ _
      | exact ih2 _ _ _ _ _
      | exact extsort_Passes.mono _ _ _
      | exact proctorref12_Passes.mono _ _ _
      | exact LeO.none _
      | refine LeO.ite ?_ ?_
      | refine LeO.bind ?_ (fun _ => ?_)
    · intro y0 y1 y2 y3 y4
      unfold proctorlaw12_ExtsortPasses.l0
      repeat' first
      | (with_reducible exact ih0 _ _ _ _)
      | (with_reducible exact ih1 _ _ _ _)
      | (with_reducible exact ih2 _ _ _ _ _)
      | (with_reducible exact extsort_Passes.mono _ _ _)
      | (with_reducible exact proctorref12_Passes.mono _ _ _)
      | (with_reducible exact LeO.refl _)
      | (with_reducible exact LeO.none _)
      | (with_reducible refine LeO.ite ?_ ?_)
      | (with_reducible refine LeO.bind ?_ (fun _ => ?_))
      | exact ih0 _ _ _ _
      | exact ih1 _ _ _ _
      | exact ih2 _ _ _ _ _
      | exact extsort_Passes.mono _ _ _
      | exact proctorref12_Passes.mono _ _ _
      | exact LeO.none _
      | refine LeO.ite ?_ ?_
      | refine LeO.bind ?_ (fun _ => ?_)
theorem proctorlaw12_ExtsortPasses.mono : ∀ a0 a1 k, LeO (proctorlaw12_ExtsortPasses.f k a0 a1) (proctorlaw12_ExtsortPasses.f (k + 1) a0 a1) := by
  intro a0 a1 k
  obtain ⟨ih0, ih1, ih2⟩ := proctorlaw12_ExtsortPasses.mono_l k
  unfold proctorlaw12_ExtsortPasses.f
  repeat' first
      | (with_reducible exact ih0 _ _ _ _)
      | (with_reducible exact ih1 _ _ _ _)
      | (with_reducible exact ih2 _ _ _ _ _)
      | (with_reducible exact extsort_Passes.mono _ _ _)
      | (with_reducible exact proctorref12_Passes.mono _ _ _)
      | (with_reducible exact LeO.refl _)
      | (with_reducible exact LeO.none _)
      | (with_reducible refine LeO.ite ?_ ?_)
      | (with_reducible refine LeO.bind ?_ (fun _ => ?_))
      | exact ih0 _ _ _ _
      | exact ih1 _ _ _ _
      | exact ih2 _ _ _ _ _
      | exact extsort_Passes.mono _ _ _
      | exact proctorref12_Passes.mono _ _ _
      | exact LeO.none _
      | refine LeO.ite ?_ ?_
      | refine LeO.bind ?_ (fun _ => ?_)
set_option maxHeartbeats 8000000 in
set_option maxRecDepth 100000 in
theorem proctorlaw12_ExtsortPasses.calls (k : Nat) (a0 : Int) (a1 : Int) (r : Bool) (w : World) (h : proctorlaw12_ExtsortPasses.f k a0 a1 = some r) :
    Calls Try.prog 3 #[.int .i64 a0, .int .i64 a1] w fun e w' => e = .returned (.bool r) ∧ Drawn0 w w' := by
  have H : ((extsort_Passes.f k 65 8).bind fun t101 => (if t101 = 3 then ((extsort_Passes.f k a0 a1).bind fun t102 => (if a1 < 2 then (proctorlaw12_ExtsortPasses.j0 k a0 a1 t102 true) else (if a1 > 64 then (proctorlaw12_ExtsortPasses.j0 k a0 a1 t102 true) else (proctorlaw12_ExtsortPasses.j0 k a0 a1 t102 (decide (a0 < 2)))))) else (some false))) = some r := h
  clear h
  replace H := Option.bind_eq_some_iff.mp H
  obtain ⟨t101, A30, H⟩ := H
  replace H : (if t101 = 3 then ((extsort_Passes.f k a0 a1).bind fun t102 => (if a1 < 2 then (proctorlaw12_ExtsortPasses.j0 k a0 a1 t102 true) else (if a1 > 64 then (proctorlaw12_ExtsortPasses.j0 k a0 a1 t102 true) else (proctorlaw12_ExtsortPasses.j0 k a0 a1 t102 (decide (a0 < 2)))))) else (some false)) = some r := H
  have A3 := Aside0.mk A30
  clear A30
  by_cases c4 : t101 = 3
  · rw [if_pos c4] at H
    have c4b0 : (t101 == 3) = true := beq_iff_eq.mpr c4
    have c4b1 : (t101 != 3) = false := bne_eq_false_iff_eq.mpr c4
    clear c4
    replace H := Option.bind_eq_some_iff.mp H
    obtain ⟨t102, A50, H⟩ := H
    replace H : (if a1 < 2 then (proctorlaw12_ExtsortPasses.j0 k a0 a1 t102 true) else (if a1 > 64 then (proctorlaw12_ExtsortPasses.j0 k a0 a1 t102 true) else (proctorlaw12_ExtsortPasses.j0 k a0 a1 t102 (decide (a0 < 2))))) = some r := H
    have A5 := Aside0.mk A50
    clear A50
    have HC6 := Aside0.mk H
    clear H
    go_enter Try.func3, Try.ntmps3
    go_upto_region 4 with (first | ((with_reducible refine gate_callee (f := 10) rfl ?_); refine goesL_ (some 8) rfl rfl Try.func10 (by kernel_rfl) rfl #[.int .i64 65, .int .i64 8] rfl (by (try simp only [List.map_toArray, List.map_cons, List.map_nil]); first | done | rfl | (simp only [List.length_drop, List.length_take]; rfl)) ?_; (with_reducible refine (extsort_Passes.calls k 65 8 t101 _ A3.out).mono ?_); rintro e w' ⟨rfl, ⟨nd, rfl⟩⟩; refine ⟨_, rfl, ?_⟩) | ((with_reducible refine gate_callee (f := 10) rfl ?_); refine goesL_ (some 12) rfl rfl Try.func10 (by kernel_rfl) rfl #[.int .i64 a0, .int .i64 a1] rfl (by (try simp only [List.map_toArray, List.map_cons, List.map_nil]); first | done | rfl | (simp only [List.length_drop, List.length_take]; rfl)) ?_; (with_reducible refine (extsort_Passes.calls k a0 a1 t102 _ A5.out).mono ?_); rintro e w' ⟨rfl, ⟨nd, rfl⟩⟩; refine ⟨_, rfl, ?_⟩))
    (try simp only [Act.put, List.setIfInBounds_toArray, List.set_cons_zero, List.set_cons_succ])
    go_cut [22] (fun v22 wc => ∃ (kq : Nat) (x22_5 : Bool), v22 = .bool x22_5 ∧ Aside0 (proctorlaw12_ExtsortPasses.j0 kq a0 a1 t102 x22_5 = some r) ∧ Aside0 (kq ≤ k) ∧ Drawn0 w wc)
    case first =>
      have H := HC6.out
      clear HC6
      by_cases c7 : a1 < 2
      · rw [if_pos c7] at H
        have c7b0 : decide (a1 < 2) = true := decide_eq_true c7
        clear c7
        (first | rw [c7b0] | (simp only [i64_w, i32_w]; rw [c7b0]) | skip)
        have H' := Aside0.mk H
        clear H
        go_wp2
        go_meet
        case rel => exact ⟨_, (true), (by first | rfl | (simp; done) | (simp [*]; done)), H', ⟨by first | omega | exact Nat.le_refl _⟩, by repeat (first | exact Drawn0.refl _ | apply Drawn0.step)⟩
      · rw [if_neg c7] at H
        have c7b0 : decide (a1 < 2) = false := decide_eq_false c7
        clear c7
        (first | rw [c7b0] | (simp only [i64_w, i32_w]; rw [c7b0]) | skip)
        by_cases c8 : a1 > 64
        · rw [if_pos c8] at H
          have c8b0 : decide (64 < a1) = true := decide_eq_true c8
          clear c8
          have H' := Aside0.mk H
          clear H
          go_wp2
          go_meet
          case rel => exact ⟨_, (true), (by first | rfl | (simp; done) | (simp [*]; done)), H', ⟨by first | omega | exact Nat.le_refl _⟩, by repeat (first | exact Drawn0.refl _ | apply Drawn0.step)⟩
        · rw [if_neg c8] at H
          have c8b0 : decide (64 < a1) = false := decide_eq_false c8
          clear c8
          have H' := Aside0.mk H
          clear H
          go_wp2
          go_meet
          case rel => exact ⟨_, (decide (a0 < 2)), (by first | rfl | (simp; done) | (simp [*]; done)), H', ⟨by first | omega | exact Nat.le_refl _⟩, by repeat (first | exact Drawn0.refl _ | apply Drawn0.step)⟩
    case rest =>
      clear HC6
      try clear c1
      try clear p2
      try clear c3
      try clear c4
      try clear c4b0
      try clear c4b1
      try clear c7
      try clear c7b0
      try clear c8
      try clear c8b0
      obtain ⟨kq, x22_5, rfl, HA, HJ5, ⟨mc5, rfl⟩⟩ := hcut
      cases kq with
      | zero => exact absurd HA.out (by simp [proctorlaw12_ExtsortPasses.j0])
      | succ kj5 =>
        have H := HA.out
        clear HA
        simp only [proctorlaw12_ExtsortPasses.j0] at H
        by_cases c9 : x22_5 = true
        · subst c9
          have H1 : (some (t102 == 0)) = some r := by rw [if_pos rfl] at H; exact H
          clear H
          have H := H1
          clear H1
          obtain rfl := Option.some.inj H
          go_wp2
          go_ret
          exact ⟨by first | rfl | (simp; done) | (simp [*]; done), by repeat (first | exact Drawn0.refl _ | apply Drawn0.step)⟩
        · replace c9 := Bool.eq_false_iff.mpr c9
          subst c9
          have H1 : (if t102 < 1 then (proctorlaw12_ExtsortPasses.j1 kj5 a0 a1 t102 true) else (if t102 > 63 then (proctorlaw12_ExtsortPasses.j1 kj5 a0 a1 t102 true) else ((proctorref12_Passes.f kj5 a0 a1).bind fun t103 => (proctorlaw12_ExtsortPasses.j1 kj5 a0 a1 t102 (t102 != t103))))) = some r := by rw [if_neg (show ¬ (false = true) by decide)] at H; exact H
          clear H
          have H := H1
          clear H1
          have HC10 := Aside0.mk H
          clear H
          go_upto_region 6 with (fail)
          go_cut [37] (fun v37 wc => ∃ (kq : Nat) (x37_9 : Bool), v37 = .bool x37_9 ∧ Aside0 (proctorlaw12_ExtsortPasses.j1 kq a0 a1 t102 x37_9 = some r) ∧ Aside0 (kq ≤ kj5) ∧ Drawn0 w wc)
          case first =>
            have H := HC10.out
            clear HC10
            by_cases c11 : t102 < 1
            · rw [if_pos c11] at H
              have c11b0 : decide (t102 < 1) = true := decide_eq_true c11
              clear c11
              (first | rw [c11b0] | (simp only [i64_w, i32_w]; rw [c11b0]) | skip)
              have H' := Aside0.mk H
              clear H
              go_wp2
              go_meet
              case rel => exact ⟨_, (true), (by first | rfl | (simp; done) | (simp [*]; done)), H', ⟨by have := HJ5.out; first | omega | exact Nat.le_refl _⟩, by repeat (first | exact Drawn0.refl _ | apply Drawn0.step)⟩
            · rw [if_neg c11] at H
              have c11b0 : decide (t102 < 1) = false := decide_eq_false c11
              clear c11
              (first | rw [c11b0] | (simp only [i64_w, i32_w]; rw [c11b0]) | skip)
              by_cases c12 : t102 > 63
              · rw [if_pos c12] at H
                have c12b0 : decide (63 < t102) = true := decide_eq_true c12
                clear c12
                have H' := Aside0.mk H
                clear H
                go_wp2
                go_meet
                case rel => exact ⟨_, (true), (by first | rfl | (simp; done) | (simp [*]; done)), H', ⟨by have := HJ5.out; first | omega | exact Nat.le_refl _⟩, by repeat (first | exact Drawn0.refl _ | apply Drawn0.step)⟩
              · rw [if_neg c12] at H
                have c12b0 : decide (63 < t102) = false := decide_eq_false c12
                clear c12
                replace H := Option.bind_eq_some_iff.mp H
                obtain ⟨t103, A130, H⟩ := H
                replace H : (proctorlaw12_ExtsortPasses.j1 kj5 a0 a1 t102 (t102 != t103)) = some r := H
                have A13 := Aside0.mk A130
                clear A130
                have H' := Aside0.mk H
                clear H
                go_wp2_with (first | (go_at_call 11; (with_reducible refine (proctorref12_Passes.calls kj5 a0 a1 t103 _ A13.out).mono ?_); rintro e w' ⟨rfl, ⟨nd, rfl⟩⟩))
                go_meet
                case rel => exact ⟨_, ((t102 != t103)), (by first | rfl | (simp; done) | (simp [*]; done)), H', ⟨by have := HJ5.out; first | omega | exact Nat.le_refl _⟩, by repeat (first | exact Drawn0.refl _ | apply Drawn0.step)⟩
          case rest =>
            clear HC10
            try clear c1
            try clear p2
            try clear c3
            try clear c4
            try clear c4b0
            try clear c4b1
            try clear c5
            try clear c7
            try clear c7b0
            try clear c8
            try clear c8b0
            try clear c9
            try clear c10
            try clear c11
            try clear c11b0
            try clear c12
            try clear c12b0
            try clear p2
            obtain ⟨kq, x37_9, rfl, HA, HJ9, ⟨mc9, rfl⟩⟩ := hcut
            cases kq with
            | zero => exact absurd HA.out (by simp [proctorlaw12_ExtsortPasses.j1])
            | succ kj9 =>
              have H := HA.out
              clear HA
              simp only [proctorlaw12_ExtsortPasses.j1] at H
              by_cases c14 : x37_9 = true
              · subst c14
                have H1 : (some false) = some r := by rw [if_pos rfl] at H; exact H
                clear H
                have H := H1
                clear H1
                obtain rfl := Option.some.inj H
                go_wp2
                go_ret
                exact ⟨by first | rfl | (simp; done) | (simp [*]; done), by repeat (first | exact Drawn0.refl _ | apply Drawn0.step)⟩
              · replace c14 := Bool.eq_false_iff.mpr c14
                subst c14
                have H1 : (proctorlaw12_ExtsortPasses.l0 kj9 a0 a1 t102 a0 0) = some r := by rw [if_neg (show ¬ (false = true) by decide)] at H; exact H
                clear H
                have H := H1
                clear H1
                have H' := Aside0.mk H
                clear H
                go_wp2
                go_loopg [6, 7] kj9 (fun kq v6 v7 w' => ∃ (x6_3 : Int) (x7_3 : Int), v6 = .int .i64 x6_3 ∧ v7 = .int .i64 x7_3 ∧ Aside0 (proctorlaw12_ExtsortPasses.l0 kq a0 a1 t102 x6_3 x7_3 = some r) ∧ Aside0 (kq ≤ kj9) ∧ Drawn0 w w')
                case atStart => exact ⟨(a0), (0), (by first | rfl | (simp; done) | (simp [*]; done)), (by first | rfl | (simp; done) | (simp [*]; done)), H', ⟨Nat.le_refl _⟩, by repeat (first | exact Drawn0.refl _ | apply Drawn0.step)⟩
                case round =>
                  clear H'
                  try clear c1
                  try clear p2
                  try clear c3
                  try clear c4
                  try clear c4b0
                  try clear c4b1
                  try clear c5
                  try clear c7
                  try clear c7b0
                  try clear c8
                  try clear c8b0
                  try clear c9
                  try clear c10
                  try clear c11
                  try clear c11b0
                  try clear c12
                  try clear c12b0
                  try clear c14
                  try clear p2
                  obtain ⟨x6_3, x7_3, rfl, rfl, HA, HK3, ⟨m3, rfl⟩⟩ := hrel
                  cases gk with
                  | zero => exact absurd HA.out (by simp [proctorlaw12_ExtsortPasses.l0])
                  | succ k3 =>
                    have H := HA.out
                    clear HA
                    simp only [proctorlaw12_ExtsortPasses.l0] at H
                    by_cases c15 : x7_3 < t102
                    · rw [if_pos c15] at H
                      have c15b0 : decide (x7_3 < t102) = true := decide_eq_true c15
                      clear c15
                      by_cases c16 : x6_3 < 2
                      · rw [if_pos c16] at H
                        have c16b0 : decide (x6_3 < 2) = true := decide_eq_true c16
                        clear c16
                        obtain rfl := Option.some.inj H
                        go_wp2
                        go_ret
                        exact ⟨by first | rfl | (simp; done) | (simp [*]; done), by repeat (first | exact Drawn0.refl _ | apply Drawn0.step)⟩
                      · rw [if_neg c16] at H
                        have c16b0 : decide (x6_3 < 2) = false := decide_eq_false c16
                        clear c16
                        by_cases c17 : a1 = 0
                        · rw [if_pos c17] at H
                          exact absurd H (by simp)
                        · rw [if_neg c17] at H
                          have c17b0 : (a1 == 0) = false := beq_eq_false_iff_ne.mpr c17
                          have c17b1 : (a1 != 0) = true := bne_iff_ne.mpr c17
                          have H' := Aside0.mk H
                          clear H
                          go_wp2
                          go_roundg k3
                          case measure => have := HJ5.out; have := HJ9.out; have := HK3.out; omega
                          case rel => exact ⟨(wrap64 ((wrap64 (Int.tdiv (wrap64 (x6_3 - 1)) a1)) + 1)), (wrap64 (x7_3 + 1)), (by first | rfl | (simp; done) | (simp [*]; done)), (by first | rfl | (simp; done) | (simp [*]; done)), H', ⟨by have := HJ5.out; have := HJ9.out; have := HK3.out; omega⟩, by repeat (first | exact Drawn0.refl _ | apply Drawn0.step)⟩
                    · rw [if_neg c15] at H
                      have c15b0 : decide (x7_3 < t102) = false := decide_eq_false c15
                      clear c15
                      by_cases c18 : x6_3 = 1
                      · rw [if_pos c18] at H
                        have c18b0 : (x6_3 == 1) = true := beq_iff_eq.mpr c18
                        have c18b1 : (x6_3 != 1) = false := bne_eq_false_iff_eq.mpr c18
                        clear c18
                        by_cases c19 : a1 = 0
                        · rw [if_pos c19] at H
                          exact absurd H (by simp)
                        · rw [if_neg c19] at H
                          have c19b0 : (a1 == 0) = false := beq_eq_false_iff_ne.mpr c19
                          have c19b1 : (a1 != 0) = true := bne_iff_ne.mpr c19
                          replace H := Option.bind_eq_some_iff.mp H
                          obtain ⟨t104, A200, H⟩ := H
                          replace H : (some (t104 == (wrap64 (t102 - 1)))) = some r := H
                          have A20 := Aside0.mk A200
                          clear A200
                          obtain rfl := Option.some.inj H
                          go_wp2_with (first | (go_at_call 10; (with_reducible refine (extsort_Passes.calls k3 (wrap64 ((wrap64 (Int.tdiv (wrap64 (a0 - 1)) a1)) + 1)) a1 t104 _ A20.out).mono ?_); rintro e w' ⟨rfl, ⟨nd, rfl⟩⟩))
                          go_ret
                          exact ⟨by first | rfl | (simp; done) | (simp [*]; done), by repeat (first | exact Drawn0.refl _ | apply Drawn0.step)⟩
                      · rw [if_neg c18] at H
                        have c18b0 : (x6_3 == 1) = false := beq_eq_false_iff_ne.mpr c18
                        have c18b1 : (x6_3 != 1) = true := bne_iff_ne.mpr c18
                        obtain rfl := Option.some.inj H
                        go_wp2
                        go_ret
                        exact ⟨by first | rfl | (simp; done) | (simp [*]; done), by repeat (first | exact Drawn0.refl _ | apply Drawn0.step)⟩
  · rw [if_neg c4] at H
    have c4b0 : (t101 == 3) = false := beq_eq_false_iff_ne.mpr c4
    have c4b1 : (t101 != 3) = true := bne_iff_ne.mpr c4
    obtain rfl := Option.some.inj H
    go_enter Try.func3, Try.ntmps3
    go_wp2_with (first | ((with_reducible refine gate_callee (f := 10) rfl ?_); refine goesL_ (some 8) rfl rfl Try.func10 (by kernel_rfl) rfl #[.int .i64 65, .int .i64 8] rfl (by (try simp only [List.map_toArray, List.map_cons, List.map_nil]); first | done | rfl | (simp only [List.length_drop, List.length_take]; rfl)) ?_; (with_reducible refine (extsort_Passes.calls k 65 8 t101 _ A3.out).mono ?_); rintro e w' ⟨rfl, ⟨nd, rfl⟩⟩; refine ⟨_, rfl, ?_⟩))
    go_ret
    exact ⟨by first | rfl | (simp; done) | (simp [*]; done), by repeat (first | exact Drawn0.refl _ | apply Drawn0.step)⟩

/-- THE ONE PURE STATEMENT of proctorlaw12_ExtsortPasses: yours. -/
def proctorlaw12_ExtsortPasses.Pure : Prop := ∀ (a0 : Int) (a1 : Int), (Lit.int .i64 a0).wf = true → (Lit.int .i64 a1).wf = true → ∃ k, proctorlaw12_ExtsortPasses.f k a0 a1 = some true
theorem proctorlaw12_ExtsortPasses.walk (P : proctorlaw12_ExtsortPasses.Pure) (a0 : Int) (a1 : Int) (w : World) (w0 : (Lit.int .i64 a0).wf = true) (w1 : (Lit.int .i64 a1).wf = true) :
    Calls Try.prog 3 #[.int .i64 a0, .int .i64 a1] w fun e w' => e = .returned (.bool true) ∧ Below w.heap.size w w' := by
  obtain ⟨k, h⟩ := P a0 a1 w0 w1
  refine (proctorlaw12_ExtsortPasses.calls k a0 a1 true w h).mono ?_
  rintro e w' ⟨rfl, hd⟩
  exact ⟨rfl, hd.below⟩

end Go.Proofs.Ytedalcocdgmigaa.PExtsortPasses
