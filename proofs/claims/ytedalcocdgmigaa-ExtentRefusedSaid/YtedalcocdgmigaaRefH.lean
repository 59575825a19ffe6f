/- The walk of ExtentRefused. No statement is proved here. -/
import Derived.Test.YtedalcocdgmigaaRefG
import Derived.Deep.Cut
import Derived.Deep.CutRange
set_option linter.unusedVariables false
set_option linter.unusedSimpArgs false
namespace Go.Proofs.Ytedalcocdgmigaa
open Go.RowKit

theorem mem_le_big : ∀ {hs : List (Int × Int)}, ∀ h ∈ hs, h.2 ≤ bigOf hs := by
  intro hs h hh
  obtain ⟨A, C, rfl⟩ := List.append_of_mem hh
  clear hh
  unfold bigOf
  rw [List.foldl_append, List.foldl_cons]
  have key : ∀ (C : List (Int × Int)) (m : Int), m ≤ C.foldl (fun m h => max m h.2) m := by
    intro C
    induction C with
    | nil => intro m; exact Int.le_refl _
    | cons y r ih => intro m; rw [List.foldl_cons]; exact Int.le_trans (Int.le_max_left _ _) (ih _)
  exact Int.le_trans (Int.le_max_right _ _) (key C _)

set_option maxHeartbeats 8000000 in
set_option maxRecDepth 100000 in
theorem refused_walk (n : Int) (a : Option Addr) (len cap : Nat) (xs : Nat → Int × Int × Int) (a2 : Option Addr) (len2 cap2 : Nat) (ys : Nat → Int × Int × Int) (w : World) (hin : OpsIn w a len xs) (hin2 : OpsIn w a2 len2 ys) :
    Calls Try.prog 9 #[.int .i64 n, .slice a len cap, .slice a2 len2 cap2] w fun e w' => e = .returned (.bool true) ∧ Below w.heap.size w w' := by
  have Hin := hid hin
  have hlen := hin.1
  have Hin2 := hid hin2
  have hlen2 := hin2.1
  clear hin hin2
  by_cases hq0 : n < 0
  · go_enter Try.func9, Try.ntmps9
    go_wp2_with fail
    refine (anchor_any _).mono ?_
    rintro e w1 ⟨rfl, hb1⟩
    go_wp2_with fail
    refine (new_bad n _ (.inl hq0)).mono ?_
    rintro e w2 ⟨rfl, rfl⟩
    go_wp2_with fail
    refine (new_bad n _ (.inl hq0)).mono ?_
    rintro e w2 ⟨rfl, rfl⟩
    go_wp2_with fail
    all_goals go_ret
    all_goals exact ⟨rfl, hb1⟩
  by_cases hq1 : 4096 < n
  · go_enter Try.func9, Try.ntmps9
    go_wp2_with fail
    refine (anchor_any _).mono ?_
    rintro e w1 ⟨rfl, hb1⟩
    go_wp2_with fail
    refine (new_bad n _ (.inr hq1)).mono ?_
    rintro e w2 ⟨rfl, rfl⟩
    go_wp2_with fail
    refine (new_bad n _ (.inr hq1)).mono ?_
    rintro e w2 ⟨rfl, rfl⟩
    go_wp2_with fail
    all_goals go_ret
    all_goals exact ⟨rfl, hb1⟩
  obtain ⟨N, rfl⟩ := Int.eq_ofNat_of_zero_le (show 0 ≤ n by omega)
  have hN2 : (N : Int) ≤ 4096 := by omega
  go_enter Try.func9, Try.ntmps9
  go_wp2_with fail
  refine (anchor_any _).mono ?_
  rintro e w1 ⟨rfl, hb1⟩
  go_wp2_with fail
  refine (new_good (N : Int) _ (by omega) (by omega)).mono ?_
  rintro e w2 ⟨p, o, rfl, hsp, hp, ho, hb2⟩
  have hb2' : Below w.heap.size w w2 := hb1.trans (hb2.mono hb1.size)
  have hnw : SpNew w.heap.size p o := ⟨Nat.le_trans hb1.size hp, fun k hk => Nat.le_trans hb1.size (ho k hk)⟩
  have Hsp := hid hsp
  have Hnw := hid hnw
  clear hsp ho hp hb1 hb2 hnw hq0 hq1
  go_wp2_with fail
  refine (new_good (N : Int) _ (by omega) (by omega)).mono ?_
  rintro e w3 ⟨p2, o2, rfl, hsp2, hp2, ho2, hb3⟩
  have hb3' := hb2'.trans (hb3.mono hb2'.size)
  have Hsp' := hid (Hsp.out.below hb3)
  have Hsp2 := hid hsp2
  have Hnw2 := hid (show SpNew w.heap.size p2 o2 from ⟨Nat.le_trans hb2'.size hp2, fun k hk => Nat.le_trans hb2'.size (ho2 k hk)⟩)
  have h12 : p ≠ p2 ∧ o ≠ some p2 ∧ o2 ≠ some p ∧ ∀ k, o = some k → o2 ≠ some k := by
    have l1 := Hsp.out.lt
    refine ⟨by omega, fun e => by have := l1.2 _ e; omega, fun e => by have := ho2 _ e; omega, fun k hk e => by have := l1.2 _ hk; have := ho2 _ e; omega⟩
  have H12 := hid h12
  clear Hsp hsp2 hp2 ho2 hb3 hb2' h12
  go_wp2_with fail
  refine (rnew_good (N : Int) _ (by omega) (by omega)).mono ?_
  rintro e w4 ⟨r, u, rfl, hrf, hr, hu, hb4⟩
  have hb4' := hb3'.trans (hb4.mono hb3'.size)
  have T4 : Hid (Tri w.heap.size w4 p o p2 o2 (N : Int) (newHoles (N : Int)) (newHoles (N : Int)) r u (List.replicate (N : Int).toNat false)) := by
    have l1 := Hsp'.out.lt
    have l2 := Hsp2.out.lt
    exact hid ⟨⟨Hsp'.out.below hb4, hrf, agree_new N, by omega, by omega, fun he => by have := l1.2 _ he; omega, fun he => by have := l1.2 _ he; omega, Hnw.out, Nat.le_trans hb3'.size hr, Nat.le_trans hb3'.size hu⟩,
      Hsp2.out.below hb4, H12.out.1, by omega, by omega, H12.out.2.1, H12.out.2.2.1, fun he => by have := l2.2 _ he; omega, fun he => by have := l2.2 _ he; omega, H12.out.2.2.2, Hnw2.out⟩
  clear Hsp' Hsp2 Hnw Hnw2 H12 hrf hr hu hb4 hb3'
  go_wp2_with fail
  go_loopg [58] len (fun g i wr => ∃ (k : Nat) (o' o2' : Option Nat) (hs : List (Int × Int)) (us : List Bool), k ≤ len ∧ g = len - k ∧ i = .int .i64 k ∧ Hid (Tri w.heap.size wr p o' p2 o2' (N : Int) hs hs r u us) ∧ Below w.heap.size w wr)
  case atStart => exact ⟨0, o, o2, _, _, Nat.zero_le _, by omega, rfl, T4, hb4'⟩
  case round =>
    clear T4 hb4'
    obtain ⟨k, o', o2', hs, us, hk, rfl, rfl, T, hbel⟩ := hrel
    by_cases hlt : k < len
    · obtain ⟨b, off, rfl, hbl, hc0, hc1, hc2, hx0, hx1, hx2⟩ := Hin.out.2 k hlt
      have q0 := (hbel.cell (p := ⟨b, off + k * 3, none⟩) hbl).trans hc0
      have q1 := (hbel.cell (p := ⟨b, off + k * 3 + 1, none⟩) hbl).trans hc1
      have q2 := (hbel.cell (p := ⟨b, off + k * 3 + 2, none⟩) hbl).trans hc2
      have hk64 : (k : Int) < (len : Int) := by omega
      have hk63 : (k : Int) + 1 ≤ 9223372036854775807 := by omega
      have hal := (Below.refl _ wr).alloc (Nat.le_refl _) (.cells #[.int .i64 (xs k).1, .int .i64 (xs k).2.1, .int .i64 (xs k).2.2] 46)
      have Ta := hid (T.out.below hal)
      have x14 := hid (T.out.box #[.int .i64 (xs k).1, .int .i64 (xs k).2.1, .int .i64 (xs k).2.2] 46)
      have hba := hid (hbel.trans (hal.mono hbel.size))
      clear hc0 hc1 hc2 hal
      generalize (xs k).1 = kd at *
      generalize (xs k).2.1 = fr at *
      generalize (xs k).2.2 = ct at *
      go_upto_if 66 with fail
      clear q0 q1 q2
      generalize hwa : wr.alloc (.cells #[.int .i64 kd, .int .i64 fr, .int .i64 ct] 46) = wa at *
      go_cut [58] from 58 to 163 (fun s58 wx => s58 = .int .i64 k ∧ ∃ o2' : Option Nat, Hid (Tri w.heap.size wx p o' p2 o2' (N : Int) hs hs r u us) ∧ Hid (Box wx p o' p2 o2' u wr.heap.size (.cells #[.int .i64 kd, .int .i64 fr, .int .i64 ct] 46 (0, 0))) ∧ Below w.heap.size w wx)
      case first =>
        by_cases hbad : k < len2
        · have ebad : decide (k < len2) = true := decide_eq_true hbad
          simp only [ebad]
          obtain ⟨b', off', rfl, hbl', hd0, hd1, hd2, hy0, hy1, hy2⟩ := Hin2.out.2 k hbad
          have q0 := (hba.out.cell (p := ⟨b', off' + k * 3, none⟩) hbl').trans hd0
          have q1 := (hba.out.cell (p := ⟨b', off' + k * 3 + 1, none⟩) hbl').trans hd1
          have q2 := (hba.out.cell (p := ⟨b', off' + k * 3 + 2, none⟩) hbl').trans hd2
          have hk64' : (k : Int) < (len2 : Int) := by omega
          generalize (ys k).1 = kb at *
          generalize (ys k).2.1 = fb at *
          generalize (ys k).2.2 = cb at *
          have hal := (Below.refl _ wa).alloc (Nat.le_refl _) (.cells #[.int .i64 kb, .int .i64 fb, .int .i64 cb] 46)
          have hal2 := (Below.refl _ (wa.alloc (.cells #[.int .i64 kb, .int .i64 fb, .int .i64 cb] 46))).alloc (Nat.le_refl _) (.cells #[.int .i64 fb, .int .i64 cb] 31)
          have x15 := (Ta.out.box #[.int .i64 kb, .int .i64 fb, .int .i64 cb] 46).below hal2
          have x16 := (Ta.out.below hal).box #[.int .i64 fb, .int .i64 cb] 31
          have X15 := hid x15
          have X16 := hid x16
          have Tb := hid ((Ta.out.below hal).below hal2)
          have x14a := hid ((x14.out.below hal).below hal2)
          have hbb := hid ((hba.out.trans (hal.mono hba.out.size)).trans (hal2.mono (Nat.le_trans hba.out.size hal.size)))
          clear hal hal2 hd0 hd1 hd2 x15 x16
          go_upto_region 16 with fail
          clear q0 q1 q2
          generalize hwb : (wa.alloc (.cells #[.int .i64 kb, .int .i64 fb, .int .i64 cb] 46)).alloc (.cells #[.int .i64 fb, .int .i64 cb] 31) = wb at *
          have y0 : wb.cell? ⟨wa.heap.size, 0, none⟩ = some (.int .i64 kb) := (blk_cell X15.out.hb 0).trans rfl
          have y2 : wb.cell? ⟨wa.heap.size, 2, none⟩ = some (.int .i64 cb) := (blk_cell X15.out.hb 2).trans rfl
          have e16 : (wa.alloc (.cells #[.int .i64 kb, .int .i64 fb, .int .i64 cb] 46)).heap.size = wa.heap.size + 1 := by simp
          rw [e16] at X16
          have z0 : wb.cell? ⟨wa.heap.size + 1, 0, none⟩ = some (.int .i64 fb) := (blk_cell X16.out.hb 0).trans rfl
          have z1 : wb.cell? ⟨wa.heap.size + 1, 1, none⟩ = some (.int .i64 cb) := (blk_cell X16.out.hb 1).trans rfl
          have T0 := Tb
          have A0 := x14a
          have X0 := X15
          have Z0 := X16
          have hw0 := hbb
          clear Tb x14a X15 X16 hbb e16 Ta x14 hba Hin Hin2
          by_cases hk1 : kb = 1
          · subst hk1
            by_cases hc1 : cb < 1
            · have hc1' : decide (cb < 1) = true := decide_eq_true hc1
              go_quiet (fail)
              have hbq : Below wb.heap.size wb (wb.drewN nq) := _root_.Go.Proofs.Ytedalcocdgmigaa.Below.drewN (Below.refl _ _) _
              clear y0 y2 z0 z1
              generalize wb.drewN nq = wq at *
              have T1 := hid (T0.out.below hbq)
              have A1 := hid (A0.out.below hbq)
              have x15n := X0.out.below hbq
              have x16n := Z0.out.below hbq
              have hw1 := hid (hw0.out.trans (hbq.mono hw0.out.size))
              have y0 : (wq).cell? ⟨wa.heap.size, 0, none⟩ = some (.int .i64 1) := (blk_cell x15n.hb 0).trans rfl
              have y2 : (wq).cell? ⟨wa.heap.size, 2, none⟩ = some (.int .i64 cb) := (blk_cell x15n.hb 2).trans rfl
              have z0 : (wq).cell? ⟨wa.heap.size + 1, 0, none⟩ = some (.int .i64 fb) := (blk_cell x16n.hb 0).trans rfl
              have z1 : (wq).cell? ⟨wa.heap.size + 1, 1, none⟩ = some (.int .i64 cb) := (blk_cell x16n.hb 1).trans rfl
              have X1 := hid x15n
              have Z1 := hid x16n
              clear hbq x15n x16n T0 A0 X0 Z0 hw0
              go_wp2_with fail
              refine (alloc_bad p cb _ hc1).mono ?_
              rintro e w1 ⟨rfl, hb1⟩
              clear y0 y2 z0 z1
              have T2 := hid (T1.out.below hb1)
              have A2 := hid (A1.out.below hb1)
              have x15n := X1.out.below hb1
              have x16n := Z1.out.below hb1
              have hw2 := hid (hw1.out.trans (hb1.mono hw1.out.size))
              have y0 : (w1).cell? ⟨wa.heap.size, 0, none⟩ = some (.int .i64 1) := (blk_cell x15n.hb 0).trans rfl
              have y2 : (w1).cell? ⟨wa.heap.size, 2, none⟩ = some (.int .i64 cb) := (blk_cell x15n.hb 2).trans rfl
              have z0 : (w1).cell? ⟨wa.heap.size + 1, 0, none⟩ = some (.int .i64 fb) := (blk_cell x16n.hb 0).trans rfl
              have z1 : (w1).cell? ⟨wa.heap.size + 1, 1, none⟩ = some (.int .i64 cb) := (blk_cell x16n.hb 1).trans rfl
              have X2 := hid x15n
              have Z2 := hid x16n
              clear hb1 x15n x16n T1 A1 X1 Z1 hw1
              go_wp2_with fail
              clear y0 y2 z0 z1
              go_meet
              case rel => exact ⟨rfl, o2', T2, A2, hw2.out⟩
            · have hc1' : decide (cb < 1) = false := decide_eq_false hc1
              by_cases hc2 : bigOf hs < cb
              · have hc2' : decide (bigOf hs < cb) = true := decide_eq_true hc2
                go_region_with ((go_at_call 23; refine (rlargest_any r u (N : Int) us hs _ (T0.out.below (Below.refl _ wb).drew).two.rf T0.out.two.sp.ok T0.out.two.ag).mono ?_; rintro e w1 ⟨rfl, hb0⟩; have hb1 : Below wb.heap.size wb w1 := (Below.refl _ wb).drew.trans hb0; clear hb0 y0 y2 z0 z1; have T1 := hid (T0.out.below hb1); have A1 := hid (A0.out.below hb1); have x15n := X0.out.below hb1; have x16n := Z0.out.below hb1; have hw1 := hid (hw0.out.trans (hb1.mono hw0.out.size)); have y0 : (w1).cell? ⟨wa.heap.size, 0, none⟩ = some (.int .i64 1) := (blk_cell x15n.hb 0).trans rfl; have y2 : (w1).cell? ⟨wa.heap.size, 2, none⟩ = some (.int .i64 cb) := (blk_cell x15n.hb 2).trans rfl; have z0 : (w1).cell? ⟨wa.heap.size + 1, 0, none⟩ = some (.int .i64 fb) := (blk_cell x16n.hb 0).trans rfl; have z1 : (w1).cell? ⟨wa.heap.size + 1, 1, none⟩ = some (.int .i64 cb) := (blk_cell x16n.hb 1).trans rfl; have X1 := hid x15n; have Z1 := hid x16n; clear hb1 x15n x16n T0 A0 X0 Z0 hw0))
                all_goals
                  go_simp
                  go_wp2_with fail
                  refine (alloc_good p o' (N : Int) cb hs _ T1.out.two.sp (by omega) hy2.2).mono ?_
                  rintro e w2 (⟨A, h, C, hhs, _, hfit, _⟩ | ⟨_, rfl, hb2⟩)
                  · have := mem_le_big (hs := hs) h (by rw [hhs]; simp)
                    omega
                  · clear y0 y2 z0 z1
                    have T2 := hid (T1.out.below hb2)
                    have A2 := hid (A1.out.below hb2)
                    have x15n := X1.out.below hb2
                    have x16n := Z1.out.below hb2
                    have hw2 := hid (hw1.out.trans (hb2.mono hw1.out.size))
                    have y0 : (w2).cell? ⟨wa.heap.size, 0, none⟩ = some (.int .i64 1) := (blk_cell x15n.hb 0).trans rfl
                    have y2 : (w2).cell? ⟨wa.heap.size, 2, none⟩ = some (.int .i64 cb) := (blk_cell x15n.hb 2).trans rfl
                    have z0 : (w2).cell? ⟨wa.heap.size + 1, 0, none⟩ = some (.int .i64 fb) := (blk_cell x16n.hb 0).trans rfl
                    have z1 : (w2).cell? ⟨wa.heap.size + 1, 1, none⟩ = some (.int .i64 cb) := (blk_cell x16n.hb 1).trans rfl
                    have X2 := hid x15n
                    have Z2 := hid x16n
                    clear hb2 x15n x16n T1 A1 X1 Z1 hw1
                    go_wp2_with fail
                    clear y0 y2 z0 z1
                    go_meet
                    case rel => exact ⟨rfl, o2', T2, A2, hw2.out⟩
              · have hc2' : decide (bigOf hs < cb) = false := decide_eq_false hc2
                go_region_with ((go_at_call 23; refine (rlargest_any r u (N : Int) us hs _ (T0.out.below (Below.refl _ wb).drew).two.rf T0.out.two.sp.ok T0.out.two.ag).mono ?_; rintro e w1 ⟨rfl, hb0⟩; have hb1 : Below wb.heap.size wb w1 := (Below.refl _ wb).drew.trans hb0; clear hb0 y0 y2 z0 z1; have T1 := hid (T0.out.below hb1); have A1 := hid (A0.out.below hb1); have x15n := X0.out.below hb1; have x16n := Z0.out.below hb1; have hw1 := hid (hw0.out.trans (hb1.mono hw0.out.size)); have y0 : (w1).cell? ⟨wa.heap.size, 0, none⟩ = some (.int .i64 1) := (blk_cell x15n.hb 0).trans rfl; have y2 : (w1).cell? ⟨wa.heap.size, 2, none⟩ = some (.int .i64 cb) := (blk_cell x15n.hb 2).trans rfl; have z0 : (w1).cell? ⟨wa.heap.size + 1, 0, none⟩ = some (.int .i64 fb) := (blk_cell x16n.hb 0).trans rfl; have z1 : (w1).cell? ⟨wa.heap.size + 1, 1, none⟩ = some (.int .i64 cb) := (blk_cell x16n.hb 1).trans rfl; have X1 := hid x15n; have Z1 := hid x16n; clear hb1 x15n x16n T0 A0 X0 Z0 hw0))
                all_goals
                  go_simp
                  go_wp2_with fail
                  clear y0 y2 z0 z1
                  go_meet
                  case rel => exact ⟨rfl, o2', T1, A1, hw1.out⟩
          by_cases hk2 : kb = 2
          · subst hk2
            go_quiet (fail)
            have hbq : Below wb.heap.size wb (wb.drewN nq) := _root_.Go.Proofs.Ytedalcocdgmigaa.Below.drewN (Below.refl _ _) _
            clear y0 y2 z0 z1
            generalize wb.drewN nq = wq at *
            have T1 := hid (T0.out.below hbq)
            have A1 := hid (A0.out.below hbq)
            have x15n := X0.out.below hbq
            have x16n := Z0.out.below hbq
            have hw1 := hid (hw0.out.trans (hbq.mono hw0.out.size))
            have y0 : (wq).cell? ⟨wa.heap.size, 0, none⟩ = some (.int .i64 2) := (blk_cell x15n.hb 0).trans rfl
            have y2 : (wq).cell? ⟨wa.heap.size, 2, none⟩ = some (.int .i64 cb) := (blk_cell x15n.hb 2).trans rfl
            have z0 : (wq).cell? ⟨wa.heap.size + 1, 0, none⟩ = some (.int .i64 fb) := (blk_cell x16n.hb 0).trans rfl
            have z1 : (wq).cell? ⟨wa.heap.size + 1, 1, none⟩ = some (.int .i64 cb) := (blk_cell x16n.hb 1).trans rfl
            have X1 := hid x15n
            have Z1 := hid x16n
            clear hbq x15n x16n T0 A0 X0 Z0 hw0
            go_wp2_with fail
            refine (take_any p2 o2' (N : Int) fb cb hs _ T1.out.sp2).mono ?_
            clear y0 y2 z0 z1
            rintro e w1 (⟨hi, rfl, hb1⟩ | ⟨hi, ⟨x, hx1, hx2, hx3⟩, rfl, hb1⟩ | ⟨hi, hall, hs1, hok1, hfr1, rfl, o3, hsp1, hst1⟩)
            · have T2 := hid (T1.out.below hb1)
              have A2 := hid (A1.out.below hb1)
              have x15n := X1.out.below hb1
              have x16n := Z1.out.below hb1
              have hw2 := hid (hw1.out.trans (hb1.mono hw1.out.size))
              have y0 : (w1).cell? ⟨wa.heap.size, 0, none⟩ = some (.int .i64 2) := (blk_cell x15n.hb 0).trans rfl
              have y2 : (w1).cell? ⟨wa.heap.size, 2, none⟩ = some (.int .i64 cb) := (blk_cell x15n.hb 2).trans rfl
              have z0 : (w1).cell? ⟨wa.heap.size + 1, 0, none⟩ = some (.int .i64 fb) := (blk_cell x16n.hb 0).trans rfl
              have z1 : (w1).cell? ⟨wa.heap.size + 1, 1, none⟩ = some (.int .i64 cb) := (blk_cell x16n.hb 1).trans rfl
              have X2 := hid x15n
              have Z2 := hid x16n
              clear hb1 x15n x16n T1 A1 X1 Z1 hw1
              have Hi := hid hi
              clear hi
              go_wp2_with fail
              refine (take_any p o' (N : Int) fb cb hs _ T2.out.two.sp).mono ?_
              clear y0 y2 z0 z1
              rintro e w2 (⟨hi2, rfl, hb2⟩ | ⟨hi2, ⟨x2, hy1, hy2, hy3⟩, rfl, hb2⟩ | ⟨hi2, hall2, _⟩)
              · have T3 := hid (T2.out.below hb2)
                have A3 := hid (A2.out.below hb2)
                have x15n := X2.out.below hb2
                have x16n := Z2.out.below hb2
                have hw3 := hid (hw2.out.trans (hb2.mono hw2.out.size))
                have y0 : (w2).cell? ⟨wa.heap.size, 0, none⟩ = some (.int .i64 2) := (blk_cell x15n.hb 0).trans rfl
                have y2 : (w2).cell? ⟨wa.heap.size, 2, none⟩ = some (.int .i64 cb) := (blk_cell x15n.hb 2).trans rfl
                have z0 : (w2).cell? ⟨wa.heap.size + 1, 0, none⟩ = some (.int .i64 fb) := (blk_cell x16n.hb 0).trans rfl
                have z1 : (w2).cell? ⟨wa.heap.size + 1, 1, none⟩ = some (.int .i64 cb) := (blk_cell x16n.hb 1).trans rfl
                have X3 := hid x15n
                have Z3 := hid x16n
                clear hb2 x15n x16n T2 A2 X2 Z2 hw2
                go_wp2_with fail
                clear y0 y2 z0 z1
                go_meet
                case rel => exact ⟨rfl, o2', T3, A3, hw3.out⟩
              · have T3 := hid (T2.out.below hb2)
                have A3 := hid (A2.out.below hb2)
                have x15n := X2.out.below hb2
                have x16n := Z2.out.below hb2
                have hw3 := hid (hw2.out.trans (hb2.mono hw2.out.size))
                have y0 : (w2).cell? ⟨wa.heap.size, 0, none⟩ = some (.int .i64 2) := (blk_cell x15n.hb 0).trans rfl
                have y2 : (w2).cell? ⟨wa.heap.size, 2, none⟩ = some (.int .i64 cb) := (blk_cell x15n.hb 2).trans rfl
                have z0 : (w2).cell? ⟨wa.heap.size + 1, 0, none⟩ = some (.int .i64 fb) := (blk_cell x16n.hb 0).trans rfl
                have z1 : (w2).cell? ⟨wa.heap.size + 1, 1, none⟩ = some (.int .i64 cb) := (blk_cell x16n.hb 1).trans rfl
                have X3 := hid x15n
                have Z3 := hid x16n
                clear hb2 x15n x16n T2 A2 X2 Z2 hw2
                go_wp2_with fail
                clear y0 y2 z0 z1
                go_meet
                case rel => exact ⟨rfl, o2', T3, A3, hw3.out⟩
              · rw [Hi.out] at hi2; cases hi2
            · have T2 := hid (T1.out.below hb1)
              have A2 := hid (A1.out.below hb1)
              have x15n := X1.out.below hb1
              have x16n := Z1.out.below hb1
              have hw2 := hid (hw1.out.trans (hb1.mono hw1.out.size))
              have y0 : (w1).cell? ⟨wa.heap.size, 0, none⟩ = some (.int .i64 2) := (blk_cell x15n.hb 0).trans rfl
              have y2 : (w1).cell? ⟨wa.heap.size, 2, none⟩ = some (.int .i64 cb) := (blk_cell x15n.hb 2).trans rfl
              have z0 : (w1).cell? ⟨wa.heap.size + 1, 0, none⟩ = some (.int .i64 fb) := (blk_cell x16n.hb 0).trans rfl
              have z1 : (w1).cell? ⟨wa.heap.size + 1, 1, none⟩ = some (.int .i64 cb) := (blk_cell x16n.hb 1).trans rfl
              have X2 := hid x15n
              have Z2 := hid x16n
              clear hb1 x15n x16n T1 A1 X1 Z1 hw1
              have Hi := hid hi
              clear hi
              go_wp2_with fail
              refine (take_any p o' (N : Int) fb cb hs _ T2.out.two.sp).mono ?_
              clear y0 y2 z0 z1
              rintro e w2 (⟨hi2, rfl, hb2⟩ | ⟨hi2, ⟨x2, hy1, hy2, hy3⟩, rfl, hb2⟩ | ⟨hi2, hall2, _⟩)
              · have T3 := hid (T2.out.below hb2)
                have A3 := hid (A2.out.below hb2)
                have x15n := X2.out.below hb2
                have x16n := Z2.out.below hb2
                have hw3 := hid (hw2.out.trans (hb2.mono hw2.out.size))
                have y0 : (w2).cell? ⟨wa.heap.size, 0, none⟩ = some (.int .i64 2) := (blk_cell x15n.hb 0).trans rfl
                have y2 : (w2).cell? ⟨wa.heap.size, 2, none⟩ = some (.int .i64 cb) := (blk_cell x15n.hb 2).trans rfl
                have z0 : (w2).cell? ⟨wa.heap.size + 1, 0, none⟩ = some (.int .i64 fb) := (blk_cell x16n.hb 0).trans rfl
                have z1 : (w2).cell? ⟨wa.heap.size + 1, 1, none⟩ = some (.int .i64 cb) := (blk_cell x16n.hb 1).trans rfl
                have X3 := hid x15n
                have Z3 := hid x16n
                clear hb2 x15n x16n T2 A2 X2 Z2 hw2
                go_wp2_with fail
                clear y0 y2 z0 z1
                go_meet
                case rel => exact ⟨rfl, o2', T3, A3, hw3.out⟩
              · have T3 := hid (T2.out.below hb2)
                have A3 := hid (A2.out.below hb2)
                have x15n := X2.out.below hb2
                have x16n := Z2.out.below hb2
                have hw3 := hid (hw2.out.trans (hb2.mono hw2.out.size))
                have y0 : (w2).cell? ⟨wa.heap.size, 0, none⟩ = some (.int .i64 2) := (blk_cell x15n.hb 0).trans rfl
                have y2 : (w2).cell? ⟨wa.heap.size, 2, none⟩ = some (.int .i64 cb) := (blk_cell x15n.hb 2).trans rfl
                have z0 : (w2).cell? ⟨wa.heap.size + 1, 0, none⟩ = some (.int .i64 fb) := (blk_cell x16n.hb 0).trans rfl
                have z1 : (w2).cell? ⟨wa.heap.size + 1, 1, none⟩ = some (.int .i64 cb) := (blk_cell x16n.hb 1).trans rfl
                have X3 := hid x15n
                have Z3 := hid x16n
                clear hb2 x15n x16n T2 A2 X2 Z2 hw2
                go_wp2_with fail
                clear y0 y2 z0 z1
                go_meet
                case rel => exact ⟨rfl, o2', T3, A3, hw3.out⟩
              · rw [hall2 x hx1 hx2] at hx3; cases hx3
            · have Hi := hid hi
              have Hall := hid hall
              have Hfr := hid hfr1
              clear hi hall hfr1 hok1
              obtain ⟨tn, hbn⟩ := T1.out.tstep hst1 hsp1 hw1.out.size
              have T2 := hid tn
              have A2 := hid (A1.out.tstep hst1)
              have x15n := X1.out.tstep hst1
              have x16n := Z1.out.tstep hst1
              have hw2 := hid (hw1.out.trans hbn)
              have y0 : (w1).cell? ⟨wa.heap.size, 0, none⟩ = some (.int .i64 2) := (blk_cell x15n.hb 0).trans rfl
              have y2 : (w1).cell? ⟨wa.heap.size, 2, none⟩ = some (.int .i64 cb) := (blk_cell x15n.hb 2).trans rfl
              have z0 : (w1).cell? ⟨wa.heap.size + 1, 0, none⟩ = some (.int .i64 fb) := (blk_cell x16n.hb 0).trans rfl
              have z1 : (w1).cell? ⟨wa.heap.size + 1, 1, none⟩ = some (.int .i64 cb) := (blk_cell x16n.hb 1).trans rfl
              have X2 := hid x15n
              have Z2 := hid x16n
              clear hst1 hsp1 tn hbn x15n x16n T1 A1 X1 Z1 hw1
              go_wp2_with fail
              refine (free_any p2 o3 (N : Int) fb cb hs1 _ T2.out.sp2).mono ?_
              clear y0 y2 z0 z1
              rintro e w2 (⟨hi2, _⟩ | ⟨_, ⟨x2, hy1, hy2, hy3⟩, _⟩ | ⟨_, hall2, hs2, hok2, hfr2, rfl, o4, hsp2, hst2⟩)
              · rw [Hi.out] at hi2; cases hi2
              · rw [Hfr.out] at hy3; simp [hy1, hy2] at hy3
              · have he : hs2 = hs := okFrom_unique hok2 T2.out.two.sp.ok (fun x => by
                  rw [hfr2, Hfr.out]
                  by_cases hx : fb ≤ x ∧ x < fb + cb
                  · rw [Hall.out x hx.1 hx.2]; simp [hx.1, hx.2]
                  · have : (decide (fb ≤ x) && decide (x < fb + cb)) = false := by
                      rw [Bool.and_eq_false_iff]
                      by_cases h1 : fb ≤ x
                      · exact .inr (decide_eq_false (fun h2 => hx ⟨h1, h2⟩))
                      · exact .inl (decide_eq_false h1)
                    rw [this]; simp)
                subst he
                clear hok2 hall2 hfr2
                obtain ⟨tn, hbn⟩ := T2.out.tstep hst2 hsp2 hw2.out.size
                have T3 := hid tn
                have A3 := hid (A2.out.tstep hst2)
                have x15n := X2.out.tstep hst2
                have x16n := Z2.out.tstep hst2
                have hw3 := hid (hw2.out.trans hbn)
                have y0 : (w2).cell? ⟨wa.heap.size, 0, none⟩ = some (.int .i64 2) := (blk_cell x15n.hb 0).trans rfl
                have y2 : (w2).cell? ⟨wa.heap.size, 2, none⟩ = some (.int .i64 cb) := (blk_cell x15n.hb 2).trans rfl
                have z0 : (w2).cell? ⟨wa.heap.size + 1, 0, none⟩ = some (.int .i64 fb) := (blk_cell x16n.hb 0).trans rfl
                have z1 : (w2).cell? ⟨wa.heap.size + 1, 1, none⟩ = some (.int .i64 cb) := (blk_cell x16n.hb 1).trans rfl
                have X3 := hid x15n
                have Z3 := hid x16n
                clear hst2 hsp2 tn hbn x15n x16n T2 A2 X2 Z2 hw2
                go_wp2_with fail
                clear y0 y2 z0 z1
                go_meet
                case rel => exact ⟨rfl, o4, T3, A3, hw3.out⟩
          by_cases hk3 : kb = 3
          · subst hk3
            go_quiet (fail)
            have hbq : Below wb.heap.size wb (wb.drewN nq) := _root_.Go.Proofs.Ytedalcocdgmigaa.Below.drewN (Below.refl _ _) _
            clear y0 y2 z0 z1
            generalize wb.drewN nq = wq at *
            have T1 := hid (T0.out.below hbq)
            have A1 := hid (A0.out.below hbq)
            have x15n := X0.out.below hbq
            have x16n := Z0.out.below hbq
            have hw1 := hid (hw0.out.trans (hbq.mono hw0.out.size))
            have y0 : (wq).cell? ⟨wa.heap.size, 0, none⟩ = some (.int .i64 3) := (blk_cell x15n.hb 0).trans rfl
            have y2 : (wq).cell? ⟨wa.heap.size, 2, none⟩ = some (.int .i64 cb) := (blk_cell x15n.hb 2).trans rfl
            have z0 : (wq).cell? ⟨wa.heap.size + 1, 0, none⟩ = some (.int .i64 fb) := (blk_cell x16n.hb 0).trans rfl
            have z1 : (wq).cell? ⟨wa.heap.size + 1, 1, none⟩ = some (.int .i64 cb) := (blk_cell x16n.hb 1).trans rfl
            have X1 := hid x15n
            have Z1 := hid x16n
            clear hbq x15n x16n T0 A0 X0 Z0 hw0
            go_wp2_with fail
            refine (free_any p2 o2' (N : Int) fb cb hs _ T1.out.sp2).mono ?_
            clear y0 y2 z0 z1
            rintro e w1 (⟨hi, rfl, hb1⟩ | ⟨hi, ⟨x, hx1, hx2, hx3⟩, rfl, hb1⟩ | ⟨hi, hall, hs1, hok1, hfr1, rfl, o3, hsp1, hst1⟩)
            · have T2 := hid (T1.out.below hb1)
              have A2 := hid (A1.out.below hb1)
              have x15n := X1.out.below hb1
              have x16n := Z1.out.below hb1
              have hw2 := hid (hw1.out.trans (hb1.mono hw1.out.size))
              have y0 : (w1).cell? ⟨wa.heap.size, 0, none⟩ = some (.int .i64 3) := (blk_cell x15n.hb 0).trans rfl
              have y2 : (w1).cell? ⟨wa.heap.size, 2, none⟩ = some (.int .i64 cb) := (blk_cell x15n.hb 2).trans rfl
              have z0 : (w1).cell? ⟨wa.heap.size + 1, 0, none⟩ = some (.int .i64 fb) := (blk_cell x16n.hb 0).trans rfl
              have z1 : (w1).cell? ⟨wa.heap.size + 1, 1, none⟩ = some (.int .i64 cb) := (blk_cell x16n.hb 1).trans rfl
              have X2 := hid x15n
              have Z2 := hid x16n
              clear hb1 x15n x16n T1 A1 X1 Z1 hw1
              have Hi := hid hi
              clear hi
              go_wp2_with fail
              refine (free_any p o' (N : Int) fb cb hs _ T2.out.two.sp).mono ?_
              clear y0 y2 z0 z1
              rintro e w2 (⟨hi2, rfl, hb2⟩ | ⟨hi2, ⟨x2, hy1, hy2, hy3⟩, rfl, hb2⟩ | ⟨hi2, hall2, _⟩)
              · have T3 := hid (T2.out.below hb2)
                have A3 := hid (A2.out.below hb2)
                have x15n := X2.out.below hb2
                have x16n := Z2.out.below hb2
                have hw3 := hid (hw2.out.trans (hb2.mono hw2.out.size))
                have y0 : (w2).cell? ⟨wa.heap.size, 0, none⟩ = some (.int .i64 3) := (blk_cell x15n.hb 0).trans rfl
                have y2 : (w2).cell? ⟨wa.heap.size, 2, none⟩ = some (.int .i64 cb) := (blk_cell x15n.hb 2).trans rfl
                have z0 : (w2).cell? ⟨wa.heap.size + 1, 0, none⟩ = some (.int .i64 fb) := (blk_cell x16n.hb 0).trans rfl
                have z1 : (w2).cell? ⟨wa.heap.size + 1, 1, none⟩ = some (.int .i64 cb) := (blk_cell x16n.hb 1).trans rfl
                have X3 := hid x15n
                have Z3 := hid x16n
                clear hb2 x15n x16n T2 A2 X2 Z2 hw2
                go_wp2_with fail
                clear y0 y2 z0 z1
                go_meet
                case rel => exact ⟨rfl, o2', T3, A3, hw3.out⟩
              · have T3 := hid (T2.out.below hb2)
                have A3 := hid (A2.out.below hb2)
                have x15n := X2.out.below hb2
                have x16n := Z2.out.below hb2
                have hw3 := hid (hw2.out.trans (hb2.mono hw2.out.size))
                have y0 : (w2).cell? ⟨wa.heap.size, 0, none⟩ = some (.int .i64 3) := (blk_cell x15n.hb 0).trans rfl
                have y2 : (w2).cell? ⟨wa.heap.size, 2, none⟩ = some (.int .i64 cb) := (blk_cell x15n.hb 2).trans rfl
                have z0 : (w2).cell? ⟨wa.heap.size + 1, 0, none⟩ = some (.int .i64 fb) := (blk_cell x16n.hb 0).trans rfl
                have z1 : (w2).cell? ⟨wa.heap.size + 1, 1, none⟩ = some (.int .i64 cb) := (blk_cell x16n.hb 1).trans rfl
                have X3 := hid x15n
                have Z3 := hid x16n
                clear hb2 x15n x16n T2 A2 X2 Z2 hw2
                go_wp2_with fail
                clear y0 y2 z0 z1
                go_meet
                case rel => exact ⟨rfl, o2', T3, A3, hw3.out⟩
              · rw [Hi.out] at hi2; cases hi2
            · have T2 := hid (T1.out.below hb1)
              have A2 := hid (A1.out.below hb1)
              have x15n := X1.out.below hb1
              have x16n := Z1.out.below hb1
              have hw2 := hid (hw1.out.trans (hb1.mono hw1.out.size))
              have y0 : (w1).cell? ⟨wa.heap.size, 0, none⟩ = some (.int .i64 3) := (blk_cell x15n.hb 0).trans rfl
              have y2 : (w1).cell? ⟨wa.heap.size, 2, none⟩ = some (.int .i64 cb) := (blk_cell x15n.hb 2).trans rfl
              have z0 : (w1).cell? ⟨wa.heap.size + 1, 0, none⟩ = some (.int .i64 fb) := (blk_cell x16n.hb 0).trans rfl
              have z1 : (w1).cell? ⟨wa.heap.size + 1, 1, none⟩ = some (.int .i64 cb) := (blk_cell x16n.hb 1).trans rfl
              have X2 := hid x15n
              have Z2 := hid x16n
              clear hb1 x15n x16n T1 A1 X1 Z1 hw1
              have Hi := hid hi
              clear hi
              go_wp2_with fail
              refine (free_any p o' (N : Int) fb cb hs _ T2.out.two.sp).mono ?_
              clear y0 y2 z0 z1
              rintro e w2 (⟨hi2, rfl, hb2⟩ | ⟨hi2, ⟨x2, hy1, hy2, hy3⟩, rfl, hb2⟩ | ⟨hi2, hall2, _⟩)
              · have T3 := hid (T2.out.below hb2)
                have A3 := hid (A2.out.below hb2)
                have x15n := X2.out.below hb2
                have x16n := Z2.out.below hb2
                have hw3 := hid (hw2.out.trans (hb2.mono hw2.out.size))
                have y0 : (w2).cell? ⟨wa.heap.size, 0, none⟩ = some (.int .i64 3) := (blk_cell x15n.hb 0).trans rfl
                have y2 : (w2).cell? ⟨wa.heap.size, 2, none⟩ = some (.int .i64 cb) := (blk_cell x15n.hb 2).trans rfl
                have z0 : (w2).cell? ⟨wa.heap.size + 1, 0, none⟩ = some (.int .i64 fb) := (blk_cell x16n.hb 0).trans rfl
                have z1 : (w2).cell? ⟨wa.heap.size + 1, 1, none⟩ = some (.int .i64 cb) := (blk_cell x16n.hb 1).trans rfl
                have X3 := hid x15n
                have Z3 := hid x16n
                clear hb2 x15n x16n T2 A2 X2 Z2 hw2
                go_wp2_with fail
                clear y0 y2 z0 z1
                go_meet
                case rel => exact ⟨rfl, o2', T3, A3, hw3.out⟩
              · have T3 := hid (T2.out.below hb2)
                have A3 := hid (A2.out.below hb2)
                have x15n := X2.out.below hb2
                have x16n := Z2.out.below hb2
                have hw3 := hid (hw2.out.trans (hb2.mono hw2.out.size))
                have y0 : (w2).cell? ⟨wa.heap.size, 0, none⟩ = some (.int .i64 3) := (blk_cell x15n.hb 0).trans rfl
                have y2 : (w2).cell? ⟨wa.heap.size, 2, none⟩ = some (.int .i64 cb) := (blk_cell x15n.hb 2).trans rfl
                have z0 : (w2).cell? ⟨wa.heap.size + 1, 0, none⟩ = some (.int .i64 fb) := (blk_cell x16n.hb 0).trans rfl
                have z1 : (w2).cell? ⟨wa.heap.size + 1, 1, none⟩ = some (.int .i64 cb) := (blk_cell x16n.hb 1).trans rfl
                have X3 := hid x15n
                have Z3 := hid x16n
                clear hb2 x15n x16n T2 A2 X2 Z2 hw2
                go_wp2_with fail
                clear y0 y2 z0 z1
                go_meet
                case rel => exact ⟨rfl, o2', T3, A3, hw3.out⟩
              · rw [hall2 x hx1 hx2] at hx3; cases hx3
            · have Hi := hid hi
              have Hall := hid hall
              have Hfr := hid hfr1
              clear hi hall hfr1 hok1
              obtain ⟨tn, hbn⟩ := T1.out.tstep hst1 hsp1 hw1.out.size
              have T2 := hid tn
              have A2 := hid (A1.out.tstep hst1)
              have x15n := X1.out.tstep hst1
              have x16n := Z1.out.tstep hst1
              have hw2 := hid (hw1.out.trans hbn)
              have y0 : (w1).cell? ⟨wa.heap.size, 0, none⟩ = some (.int .i64 3) := (blk_cell x15n.hb 0).trans rfl
              have y2 : (w1).cell? ⟨wa.heap.size, 2, none⟩ = some (.int .i64 cb) := (blk_cell x15n.hb 2).trans rfl
              have z0 : (w1).cell? ⟨wa.heap.size + 1, 0, none⟩ = some (.int .i64 fb) := (blk_cell x16n.hb 0).trans rfl
              have z1 : (w1).cell? ⟨wa.heap.size + 1, 1, none⟩ = some (.int .i64 cb) := (blk_cell x16n.hb 1).trans rfl
              have X2 := hid x15n
              have Z2 := hid x16n
              clear hst1 hsp1 tn hbn x15n x16n T1 A1 X1 Z1 hw1
              go_wp2_with fail
              refine (take_any p2 o3 (N : Int) fb cb hs1 _ T2.out.sp2).mono ?_
              clear y0 y2 z0 z1
              rintro e w2 (⟨hi2, _⟩ | ⟨_, ⟨x2, hy1, hy2, hy3⟩, _⟩ | ⟨_, hall2, hs2, hok2, hfr2, rfl, o4, hsp2, hst2⟩)
              · rw [Hi.out] at hi2; cases hi2
              · rw [Hfr.out] at hy3; simp [hy1, hy2] at hy3
              · have he : hs2 = hs := okFrom_unique hok2 T2.out.two.sp.ok (fun x => by
                  rw [hfr2, Hfr.out]
                  by_cases hx : fb ≤ x ∧ x < fb + cb
                  · rw [Hall.out x hx.1 hx.2]; simp [hx.1, hx.2]
                  · have : (decide (fb ≤ x) && decide (x < fb + cb)) = false := by
                      rw [Bool.and_eq_false_iff]
                      by_cases h1 : fb ≤ x
                      · exact .inr (decide_eq_false (fun h2 => hx ⟨h1, h2⟩))
                      · exact .inl (decide_eq_false h1)
                    rw [this]; simp)
                subst he
                clear hok2 hall2 hfr2
                obtain ⟨tn, hbn⟩ := T2.out.tstep hst2 hsp2 hw2.out.size
                have T3 := hid tn
                have A3 := hid (A2.out.tstep hst2)
                have x15n := X2.out.tstep hst2
                have x16n := Z2.out.tstep hst2
                have hw3 := hid (hw2.out.trans hbn)
                have y0 : (w2).cell? ⟨wa.heap.size, 0, none⟩ = some (.int .i64 3) := (blk_cell x15n.hb 0).trans rfl
                have y2 : (w2).cell? ⟨wa.heap.size, 2, none⟩ = some (.int .i64 cb) := (blk_cell x15n.hb 2).trans rfl
                have z0 : (w2).cell? ⟨wa.heap.size + 1, 0, none⟩ = some (.int .i64 fb) := (blk_cell x16n.hb 0).trans rfl
                have z1 : (w2).cell? ⟨wa.heap.size + 1, 1, none⟩ = some (.int .i64 cb) := (blk_cell x16n.hb 1).trans rfl
                have X3 := hid x15n
                have Z3 := hid x16n
                clear hst2 hsp2 tn hbn x15n x16n T2 A2 X2 Z2 hw2
                go_wp2_with fail
                clear y0 y2 z0 z1
                go_meet
                case rel => exact ⟨rfl, o4, T3, A3, hw3.out⟩
          have hk1' : (kb == 1) = false := beq_eq_false_iff_ne.mpr hk1
          have hk2' : (kb == 2) = false := beq_eq_false_iff_ne.mpr hk2
          have hk3' : (kb == 3) = false := beq_eq_false_iff_ne.mpr hk3
          go_quiet (fail)
          have hbq : Below wb.heap.size wb (wb.drewN nq) := _root_.Go.Proofs.Ytedalcocdgmigaa.Below.drewN (Below.refl _ _) _
          clear y0 y2 z0 z1
          generalize wb.drewN nq = wq at *
          have T1 := hid (T0.out.below hbq)
          have A1 := hid (A0.out.below hbq)
          have x15n := X0.out.below hbq
          have x16n := Z0.out.below hbq
          have hw1 := hid (hw0.out.trans (hbq.mono hw0.out.size))
          have y0 : (wq).cell? ⟨wa.heap.size, 0, none⟩ = some (.int .i64 kb) := (blk_cell x15n.hb 0).trans rfl
          have y2 : (wq).cell? ⟨wa.heap.size, 2, none⟩ = some (.int .i64 cb) := (blk_cell x15n.hb 2).trans rfl
          have z0 : (wq).cell? ⟨wa.heap.size + 1, 0, none⟩ = some (.int .i64 fb) := (blk_cell x16n.hb 0).trans rfl
          have z1 : (wq).cell? ⟨wa.heap.size + 1, 1, none⟩ = some (.int .i64 cb) := (blk_cell x16n.hb 1).trans rfl
          have X1 := hid x15n
          have Z1 := hid x16n
          clear hbq x15n x16n T0 A0 X0 Z0 hw0
          go_wp2_with fail
          clear y0 y2 z0 z1
          go_meet
          case rel => exact ⟨rfl, o2', T1, A1, hw1.out⟩
        · have ebad : decide (k < len2) = false := decide_eq_false hbad
          simp only [ebad]
          go_wp2_with fail
          go_meet
          case rel => exact ⟨rfl, o2', Ta, x14, hba.out⟩
      case rest =>
        obtain ⟨rfl, o3, Tc, xc, hwc⟩ := hcut
        have y0 : (wc).cell? ⟨wr.heap.size, 0, none⟩ = some (.int .i64 kd) := (blk_cell xc.out.hb 0).trans rfl
        have y1 : (wc).cell? ⟨wr.heap.size, 1, none⟩ = some (.int .i64 fr) := (blk_cell xc.out.hb 1).trans rfl
        have y2 : (wc).cell? ⟨wr.heap.size, 2, none⟩ = some (.int .i64 ct) := (blk_cell xc.out.hb 2).trans rfl
        have hwc' := hid hwc
        clear Ta x14 hba hwc
        clear T hbel hwa
        go_wp2_with fail
        refine (step2_any w.heap.size _ p r u o' (N : Int) hs us kd fr ct hwc'.out.size Tc.out.two hx1.1 hx1.2 hx2.1 hx2.2).mono ?_
        rintro e w5 ⟨rfl, o4, hs4, us4, t4, hb4, st4, rel4⟩
        have T4 := hid (Tc.out.step st4 t4)
        have x4 := hid (xc.out.step st4)
        have hw4 := hid (hwc'.out.trans hb4)
        have Rel4 := hid rel4
        clear t4 hb4 st4 rel4 Tc xc hwc' y0 y1 y2
        have y0 : (w5).cell? ⟨wr.heap.size, 0, none⟩ = some (.int .i64 kd) := (blk_cell x4.out.hb 0).trans rfl
        have y1 : (w5).cell? ⟨wr.heap.size, 1, none⟩ = some (.int .i64 fr) := (blk_cell x4.out.hb 1).trans rfl
        have y2 : (w5).cell? ⟨wr.heap.size, 2, none⟩ = some (.int .i64 ct) := (blk_cell x4.out.hb 2).trans rfl
        by_cases hk1 : kd = 1
        · subst hk1
          go_wp2_with fail
          refine (talloc w.heap.size _ p o4 p2 o3 (N : Int) fr ct hs hs4 r u us4 hw4.out.size T4.out Rel4.out hx2.2).mono ?_
          rintro e w6 ⟨v, o5, rfl, t5, hb5, st5⟩
          have x5 := x4.out.tstep st5
          clear y0 y1 y2
          have y0 : (w6).cell? ⟨wr.heap.size, 0, none⟩ = some (.int .i64 1) := (blk_cell x5.hb 0).trans rfl
          have y1 : (w6).cell? ⟨wr.heap.size, 1, none⟩ = some (.int .i64 fr) := (blk_cell x5.hb 1).trans rfl
          have y2 : (w6).cell? ⟨wr.heap.size, 2, none⟩ = some (.int .i64 ct) := (blk_cell x5.hb 2).trans rfl
          have T5 := hid t5
          have hw5 := hid (hw4.out.trans hb5)
          clear x5 x4 t5 hb5 st5 T4 hw4 Rel4
          go_wp2_with fail
          go_roundg (len - (k + 1))
          case measure => omega
          case rel => exact ⟨k + 1, o4, o5, hs4, us4, by omega, rfl, by go_num, T5, hw5.out⟩
        by_cases hk2 : kd = 2
        · subst hk2
          go_wp2_with fail
          refine (ttake w.heap.size _ p o4 p2 o3 (N : Int) fr ct hs hs4 r u us4 hw4.out.size T4.out Rel4.out).mono ?_
          rintro e w6 ⟨v, o5, rfl, t5, hb5, st5⟩
          have x5 := x4.out.tstep st5
          clear y0 y1 y2
          have y0 : (w6).cell? ⟨wr.heap.size, 0, none⟩ = some (.int .i64 2) := (blk_cell x5.hb 0).trans rfl
          have y1 : (w6).cell? ⟨wr.heap.size, 1, none⟩ = some (.int .i64 fr) := (blk_cell x5.hb 1).trans rfl
          have y2 : (w6).cell? ⟨wr.heap.size, 2, none⟩ = some (.int .i64 ct) := (blk_cell x5.hb 2).trans rfl
          have T5 := hid t5
          have hw5 := hid (hw4.out.trans hb5)
          clear x5 x4 t5 hb5 st5 T4 hw4 Rel4
          go_wp2_with fail
          go_roundg (len - (k + 1))
          case measure => omega
          case rel => exact ⟨k + 1, o4, o5, hs4, us4, by omega, rfl, by go_num, T5, hw5.out⟩
        by_cases hk3 : kd = 3
        · subst hk3
          go_wp2_with fail
          refine (tfree w.heap.size _ p o4 p2 o3 (N : Int) fr ct hs hs4 r u us4 hw4.out.size T4.out Rel4.out).mono ?_
          rintro e w6 ⟨v, o5, rfl, t5, hb5, st5⟩
          have x5 := x4.out.tstep st5
          clear y0 y1 y2
          have y0 : (w6).cell? ⟨wr.heap.size, 0, none⟩ = some (.int .i64 3) := (blk_cell x5.hb 0).trans rfl
          have y1 : (w6).cell? ⟨wr.heap.size, 1, none⟩ = some (.int .i64 fr) := (blk_cell x5.hb 1).trans rfl
          have y2 : (w6).cell? ⟨wr.heap.size, 2, none⟩ = some (.int .i64 ct) := (blk_cell x5.hb 2).trans rfl
          have T5 := hid t5
          have hw5 := hid (hw4.out.trans hb5)
          clear x5 x4 t5 hb5 st5 T4 hw4 Rel4
          go_wp2_with fail
          go_roundg (len - (k + 1))
          case measure => omega
          case rel => exact ⟨k + 1, o4, o5, hs4, us4, by omega, rfl, by go_num, T5, hw5.out⟩
        have hk1' : (kd == 1) = false := beq_eq_false_iff_ne.mpr hk1
        have hk2' : (kd == 2) = false := beq_eq_false_iff_ne.mpr hk2
        have hk3' : (kd == 3) = false := beq_eq_false_iff_ne.mpr hk3
        have he : hs4 = hs := by
          rcases Rel4.out with ⟨h, _⟩ | ⟨h, _⟩ | ⟨h, _⟩ | ⟨_, _, _, h⟩
          · exact absurd h hk1
          · exact absurd h hk2
          · exact absurd h hk3
          · exact h
        subst he
        clear Rel4
        go_wp2_with fail
        go_roundg (len - (k + 1))
        case measure => omega
        case rel => exact ⟨k + 1, o4, o3, _, us4, by omega, rfl, by go_num, T4, hw4.out⟩
    · have hkN : k = len := by omega
      subst hkN
      clear Hin Hin2
      go_wp2_with fail
      refine (tells_any _ p r u o' (N : Int) hs us T.out.two.sp T.out.two.rf T.out.two.ag).mono ?_
      rintro e w5 ⟨rfl, hb5⟩
      have T5 := hid (T.out.below hb5)
      have hb5' := hbel.trans (hb5.mono hbel.size)
      clear hb5 hbel T
      go_wp2_with fail
      refine (tells_any _ p2 r u o2' (N : Int) hs us T5.out.sp2 T5.out.two.rf T5.out.two.ag).mono ?_
      rintro e w6 ⟨rfl, hb6⟩
      have hb6' := hb5'.trans (hb6.mono hb5'.size)
      clear hb6 hb5' T5
      go_wp2_with fail
      go_ret
      exact ⟨rfl, hb6'⟩
end Go.Proofs.Ytedalcocdgmigaa
