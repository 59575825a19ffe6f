/- The walk of ExtentApart. No statement is proved here. -/
import Derived.Test.YtedalcocdgmigaaApA
import Derived.Test.YtedalcocdgmigaaRowB
import Derived.Deep.OwnRows
import Derived.Deep.Cut
import Derived.Deep.CutRange
set_option linter.unusedVariables false
set_option linter.unusedSimpArgs false
namespace Go.Proofs.Ytedalcocdgmigaa
open Go.RowKit

theorem infoInt : (Try.prog.info? 3).map (fun i => (i.zero, i.size, i.bytes)) = some (some (.int .i64 0), 1, 8) := by kernel_rfl
theorem app_one (w : World) (v : Value) (H : List (Int × Int)) (x : Int × Int) (hown : w.ownsRow 0 31 2 v H.length (cells2 H)) (r : Nat) (h0 : w.cell? ⟨r, 0, none⟩ = some (.int .i64 x.1)) (h1 : w.cell? ⟨r, 1, none⟩ = some (.int .i64 x.2)) (hl : H.length ≤ 1048576) :
    ∃ v' w', (Builtin.append_ #[32, 32] 32 #[v, .slice (some ⟨r, 0, none⟩) 1 1]).run Try.prog w = .ok v' w' ∧ w'.ownsRow 0 31 2 v' (H ++ [x]).length (cells2 (H ++ [x])) ∧ w.grownBy w' v.ownBlock ∧
      (v'.ownBlock = v.ownBlock ∨ (v'.ownBlock = some w.heap.size ∧ w.grownBy w' none)) := by
  obtain ⟨ti, hi, hz0, hz1, hz2⟩ := info_parts infoE
  rw [cells2_append, List.length_append]
  refine run_append_own3 w 0 32 32 31 ti _ 2 16 Try.underlying32 hi hz0 hz1 hz2 rfl v _ _ hown ⟨r, 0, none⟩ 1 1 (cells2 [x]) (cells2_length [x]) ?_ (cells2_oneCell _) (by unfold maxLen; omega) (by omega) (Nat.zero_le _)
  intro j u hj
  match j, hj with
  | 0, hj => simp [cells2] at hj; subst hj; simpa [Addr.add_lit] using h0
  | 1, hj => simp [cells2] at hj; subst hj; simpa [Addr.add_lit] using h1
  | j + 2, hj => simp [cells2] at hj
theorem own_slice2 {w : World} {v : Value} {H : List (Int × Int)} (h : w.ownsRow 0 31 2 v H.length (cells2 H)) (hn : H ≠ []) : ∃ g cap, v = .slice (some ⟨g, 0, none⟩) H.length cap := by
  rcases h.2 with ⟨rfl, h0⟩ | ⟨g0, cap0, cur, rfl, _⟩
  · exact absurd (List.eq_nil_of_length_eq_zero h0) hn
  · exact ⟨g0, cap0, rfl⟩
/-- Alloc, in one form. -/
def AllTell (n : Int) (hs hs' : List (Int × Int)) (c f cx er : Int) : Prop :=
  (er = 0 ∧ cx = c ∧ GivenTell n hs hs' f c) ∨ ((er == 0) = false ∧ f = 0 ∧ cx = 0 ∧ hs' = hs ∧ ¬ (1 ≤ c ∧ c ≤ bigOf hs))
def AllPost (w : World) (p : Nat) (o : Option Nat) (n : Int) (hs : List (Int × Int)) (c : Int) (e : Ending) (w' : World) : Prop :=
  ∃ f cx er hs' o', e = .returned (.tuple #[.agg #[.int .i64 f, .int .i64 cx], .int .i64 er]) ∧ AllTell n hs hs' c f cx er ∧ Sp w' p o' n hs' ∧ SpStep w w' p o o'
theorem alloc_all (p : Nat) (o : Option Nat) (n c : Int) (hs : List (Int × Int)) (w : World) (h : Sp w p o n hs) (hc2 : c ≤ 9223372036854775807) :
    Calls Try.prog 17 #[.pointer (some ⟨p, 0, none⟩), .int .i64 c] w (AllPost w p o n hs c) := by
  refine (alloc_given p o n c hs w h hc2).mono ?_
  rintro e w' (⟨f, hs', o', rfl, ht, hsp, hst⟩ | ⟨hno, er, her, rfl, hb⟩)
  · exact ⟨f, c, 0, hs', o', rfl, .inl ⟨rfl, rfl, ht⟩, hsp, hst⟩
  · exact ⟨0, 0, er, hs, o, rfl, .inr ⟨beq_eq_false_iff_ne.mpr her, rfl, rfl, rfl, hno⟩, h.below hb, SpStep.of_below hb⟩
theorem newFree (N : Nat) (x : Nat) (hx : x < N) : freeB (newHoles (N : Int)) (x : Int) = true := by
  unfold newHoles
  rw [if_pos (by omega)]
  rw [freeB_cons]
  simp [hx]
theorem leftNew (N : Nat) : leftOf (newHoles (N : Int)) = N := by
  unfold newHoles
  by_cases h : (0 : Int) < N
  · rw [if_pos h, leftOf_cons]; simp [leftOf]
  · rw [if_neg h]; simp [leftOf]; omega

set_option maxHeartbeats 16000000 in
set_option maxRecDepth 100000 in
theorem apart_walk (n : Int) (a : Option Addr) (len cap : Nat) (xs : Nat → Int) (a2 : Option Addr) (len2 cap2 : Nat) (ys : Nat → Int) (w : World) (hin : IntsIn w a len xs) (hin2 : IntsIn w a2 len2 ys) (hsm : len ≤ 1048576) :
    Calls Try.prog 5 #[.int .i64 n, .slice a len cap, .slice a2 len2 cap2] w fun e w' => e = .returned (.bool true) ∧ Below w.heap.size w w' := by
  have Hin := hid hin
  have Hin2 := hid hin2
  have hlen2 := hin2.1
  clear hin hin2
  by_cases hq0 : n < 0
  · go_enter Try.func5, Try.ntmps5
    go_wp2_with fail
    refine (anchor_any _).mono ?_
    rintro e w1 ⟨rfl, hb1⟩
    go_wp2_with fail
    all_goals go_ret
    all_goals exact ⟨rfl, hb1⟩
  by_cases hq1 : 4096 < n
  · go_enter Try.func5, Try.ntmps5
    go_wp2_with fail
    refine (anchor_any _).mono ?_
    rintro e w1 ⟨rfl, hb1⟩
    go_wp2_with fail
    all_goals go_ret
    all_goals exact ⟨rfl, hb1⟩
  obtain ⟨N, rfl⟩ := Int.eq_ofNat_of_zero_le (show 0 ≤ n by omega)
  have hN2 : (N : Int) ≤ 4096 := by omega
  have hmk := run_make_row' (P := Try.prog) 35 3 (.int .i64 0) 8 Try.underlying35 infoInt rfl .i64 .i64 N (by omega) (by omega)
  go_enter Try.func5, Try.ntmps5
  go_wp2_with fail
  refine (anchor_any _).mono ?_
  rintro e w1 ⟨rfl, hb1⟩
  go_wp2_with fail
  refine (new_good (N : Int) _ (by omega) (by omega)).mono ?_
  rintro e w2 ⟨p, o, rfl, hsp, hp, ho, hb2⟩
  have hb2' : Below w.heap.size w w2 := hb1.trans (hb2.mono hb1.size)
  have hal := (Below.refl _ w2).alloc (Nat.le_refl _) (.cells (madeCells #[.int .i64 0] N) 3)
  have A0 : Hid (Ap w.heap.size (w2.alloc (.cells (madeCells #[.int .i64 0] N) 3)) p o w2.heap.size (.slice none 0 0) N (newHoles (N : Int)) (freeB (newHoles (N : Int))) []) := by
    have l1 := hsp.lt
    refine hid ⟨hsp.below hal, ?_, World.ownsRow_nil _ _ _ _, by omega, fun e => by have := l1.2 _ e; omega, by simp [Value.ownBlock], by simp [Value.ownBlock], fun k _ => by simp [Value.ownBlock], ⟨Nat.le_trans hb1.size hp, fun k hk => Nat.le_trans hb1.size (ho k hk)⟩, hb2'.size, fun k hk => by simp [Value.ownBlock] at hk⟩
    rw [heap_alloc_new, owA_made, owA_congr (g' := freeB (newHoles (N : Int))) (fun x hx => (newFree N x hx).symm)]
  have hw0 := hid (hb2'.trans (hal.mono hb2'.size))
  clear hsp ho hp hb1 hb2 hb2' hal hq0 hq1
  go_wp2_with fail
  clear hmk
  generalize hw3 : w2.alloc (.cells (madeCells #[.int .i64 0] N) 3) = w3 at *
  generalize w2.heap.size = u at *
  clear hw3
  go_loopg [10, 11, 44] len (fun g hv lv i wr => ∃ (k : Nat) (o' : Option Nat) (hs H : List (Int × Int)), k ≤ len ∧ g = len - k ∧ i = .int .i64 k ∧ lv = .int .i64 (leftOf hs) ∧ H.length = k ∧ Hid (Ap w.heap.size wr p o' u hv N hs (freeB hs) H) ∧ Hid (HInv N hs H) ∧ Hid (Below w.heap.size w wr))
  case atStart => exact ⟨0, o, _, [], Nat.zero_le _, by omega, rfl, by rw [leftNew], rfl, A0, hid (HInv.nil _ _), hw0⟩
  case round =>
    clear A0 hw0
    obtain ⟨k, o', hs, H, hk, rfl, rfl, rfl, hHk, A, hI, hw1⟩ := hrel
    by_cases hlt : k < len
    · obtain ⟨b, off, rfl, hbl, hc0, hx0, hx1⟩ := Hin.out.2 k hlt
      have q0 := (hw1.out.cell (p := ⟨b, off + k, none⟩) hbl).trans hc0
      have hk64 : (k : Int) < (len : Int) := by omega
      have hk63 : (k : Int) + 1 ≤ 9223372036854775807 := by omega
      generalize xs k = c at *
      go_wp2_with fail
      clear q0 hc0
      refine (largest_any p o' (N : Int) hs _ A.out.sp).mono ?_
      rintro e w4 ⟨rfl, hb4⟩
      have A4 := hid (A.out.below hb4)
      have hw4 := hid (hw1.out.trans (hb4.mono hw1.out.size))
      clear hb4 A hw1
      go_wp2_with fail
      refine (alloc_all p o' (N : Int) c hs _ A4.out.sp hx1).mono ?_
      rintro e w5 ⟨f, cx, er, hs2, o2, rfl, htell, hsp5, hst5⟩
      obtain ⟨a5, hb5⟩ := A4.out.step hst5 hsp5 hw4.out.size
      have Tell := hid htell
      have hal := (Below.refl _ w5).alloc (Nat.le_refl _) (.cells #[.int .i64 f, .int .i64 cx] 31)
      have A5 := hid (a5.box #[.int .i64 f, .int .i64 cx] 31)
      have X5 := hid (heap_alloc_new w5 (.cells #[.int .i64 f, .int .i64 cx] 31))
      have h15 := hid (show w5.heap.size ≠ u from by have := a5.lt.2.1; omega)
      have hw5 := hid ((hw4.out.trans hb5).trans (hal.mono (hw4.out.trans hb5).size))
      clear htell hsp5 hst5 a5 hb5 hal A4 hw4
      go_upto_region 16 with fail
      generalize hw6 : w5.alloc (.cells #[.int .i64 f, .int .i64 cx] 31) = w6 at *
      generalize w5.heap.size = b15 at *
      clear hw6
      go_cut [44, 66] from 44 to 182 (fun s44 s66 wx => s44 = .int .i64 k ∧ s66 = .bool false ∧ wx = w6)
      case first =>
        rcases Tell.out with ⟨rfl, rfl, hg⟩ | ⟨her, rfl, rfl, rfl, hno⟩
        · have h1 := hg.c1
          have h2 := hg.big
          have d1 : decide (1 ≤ cx) = true := decide_eq_true h1
          have d2 : decide (cx ≤ bigOf hs) = true := decide_eq_true h2
          go_wp2_with fail
          go_meet
          case rel => exact ⟨rfl, rfl, rfl⟩
        · by_cases h1 : 1 ≤ c
          · have h2 : ¬ c ≤ bigOf hs2 := fun h => hno ⟨h1, h⟩
            have h2' : bigOf hs2 < c := by omega
            have d2 : decide (c ≤ bigOf hs2) = false := decide_eq_false h2
            clear hno
            go_wp2_with fail
            go_meet
            case rel => exact ⟨rfl, rfl, rfl⟩
          · have h1' : c < 1 := by omega
            have d1 : decide (1 ≤ c) = false := decide_eq_false h1
            clear hno
            go_wp2_with fail
            go_meet
            case rel => exact ⟨rfl, rfl, rfl⟩
      case rest =>
        obtain ⟨rfl, rfl, rfl⟩ := hcut
        go_upto_if 68 with fail
        go_cut [11, 44] from 44 to 182 (fun s11 s44 wx => s44 = .int .i64 k ∧ s11 = .int .i64 (leftOf hs2) ∧ Hid (Ap w.heap.size wx p o2 u u10 N hs2 (freeB hs2) H) ∧ Hid (wx.heap[b15]? = some (.cells #[.int .i64 f, .int .i64 cx] 31 (0, 0))) ∧ Hid (Below w.heap.size w wx))
        case first =>
          rcases Tell.out with ⟨rfl, rfl, hg⟩ | ⟨her, rfl, rfl, rfl, hno⟩
          · obtain ⟨hf0, hfn, hc1, hall, hfr, hleft, hbg⟩ := hg
            obtain ⟨F, rfl⟩ := Int.eq_ofNat_of_zero_le hf0
            obtain ⟨C, rfl⟩ := Int.eq_ofNat_of_zero_le (show 0 ≤ cx by omega)
            have y0 : _ = some (Value.int .i64 F) := (blk_cell X5.out 0).trans rfl
            have y1 : _ = some (Value.int .i64 C) := (blk_cell X5.out 1).trans rfl
            have Hall := hid hall
            have Hfr := hid hfr
            have Hleft := hid hleft
            have hlr := hid (left_range A5.out.sp)
            clear hall hfr hleft hbg hx0 hx1 Tell hI
            have e68 : ((0 : Int) == 0) = true := rfl
            simp only [e68]
            clear e68
            have dF : decide ((F : Int) < 0) = false := decide_eq_false (by omega)
            have dN : decide ((N : Int) - C < F) = false := decide_eq_false (by omega)
            have hFC : (F : Int) + C ≤ 4096 := by omega
            have hFC0 : (0 : Int) ≤ (F : Int) + C := by omega
            go_wp2_with fail
            clear y0 y1
            go_loopw [17] (fun b wx => ∃ m : Nat, F ≤ m ∧ m ≤ F + C ∧ b = .int .i64 m ∧ Hid (Ap w.heap.size wx p o2 u u10 N hs2 (fun x => freeB hs x && !spanB F ((m : Int) - F) x) H) ∧ Hid (wx.heap[b15]? = some (.cells #[.int .i64 F, .int .i64 C] 31 (0, 0))) ∧ Hid (Below w.heap.size w wx)) (fun b _ => F + C - (intOf b).toNat)
            case atStart => exact ⟨F, Nat.le_refl _, by omega, rfl, hid (A5.out.gcongr (fun x _ => by rw [span_out (by omega)]; simp)), X5, hw5⟩
            case round =>
              obtain ⟨m, hm0, hm1, rfl, Ar, Xr, hwr⟩ := hrel
              by_cases hmlt : m < F + C
              · obtain ⟨r0, r1⟩ := Ar.out.cell m (by omega)
                have y0 : _ = some (Value.int .i64 F) := (blk_cell Xr.out 0).trans rfl
                have e0 : (freeB hs m && !spanB F ((m : Int) - F) m) = true := by
                  rw [Hall.out m (by omega) (by omega), span_out (by omega)]
                  rfl
                simp only [e0, if_true] at r0
                have hmN : m < N := by omega
                have hmN' : (m : Int) < (N : Int) := by omega
                have hmlt' : (m : Int) < (F : Int) + C := by omega
                have hb15 := h15.out
                obtain ⟨s0, s1, s2⟩ := Ar.out.set1 (g' := fun x => freeB hs x && !spanB F (((m + 1 : Nat) : Int) - F) x) m false hwr.out.size (fun y hy => by
                  by_cases hym : (y : Int) = m
                  · rw [if_pos hym, span_in (by omega) (by omega)]; simp
                  · rw [if_neg hym]
                    by_cases hin : (F : Int) ≤ y ∧ (y : Int) < m
                    · rw [span_in (by omega) (by omega), span_in (by omega) (by omega)]
                    · rw [span_out (by omega), span_out (by omega)])
                have Ar2 := hid s0
                have hwr2 := hid (hwr.out.trans s1)
                have Xr2 := hid ((s2.block b15 (blk_lt Xr.out) hb15).trans Xr.out)
                clear s0 s1 s2 e0 Xr Ar hb15
                simp only [Bool.false_eq_true, if_false] at Ar2 hwr2 Xr2
                go_wp2_with fail
                exact ⟨⟨m + 1, by omega, by omega, by go_num, Ar2, Xr2, hwr2⟩, by simp [intOf]; omega⟩
              · have hmN : m = F + C := by omega
                subst hmN
                have y0 : _ = some (Value.int .i64 F) := (blk_cell Xr.out 0).trans rfl
                have A7 := hid (Ar.out.gcongr (g' := freeB hs2) (fun x hx => by
                  have e : ((F + C : Nat) : Int) - F = C := by omega
                  rw [e, Hfr.out]))
                have hl0 : 0 ≤ leftOf hs - C := by have := Hleft.out; have := hlr.out; omega
                have hl1 : leftOf hs - C ≤ 4096 := by have := Hleft.out; have := hlr.out; omega
                clear Ar
                go_wp2_with fail
                go_meet
                case rel => exact ⟨rfl, by rw [Hleft.out], A7, Xr, hwr⟩
          · simp only [her]
            go_wp2_with fail
            go_meet
            case rel => exact ⟨rfl, rfl, A5, X5, hw5⟩
        case rest =>
          obtain ⟨rfl, rfl, A6, X6, hw6⟩ := hcut
          have hi2 : Hid (HInv N hs2 (H ++ [(f, cx)])) := by
            rcases Tell.out with ⟨rfl, rfl, hg⟩ | ⟨her, rfl, rfl, rfl, hno⟩
            · exact hid (hI.out.push hg)
            · exact hid hI.out.push0
          clear Tell A5 X5 hw5 hI
          have y0 : _ = some (Value.int .i64 f) := (blk_cell X6.out 0).trans rfl
          have y1 : _ = some (Value.int .i64 cx) := (blk_cell X6.out 1).trans rfl
          have hal := (Below.refl _ wc).alloc (Nat.le_refl _) (.cells #[.int .i64 f, .int .i64 cx] 31)
          have A7 := hid (A6.out.box #[.int .i64 f, .int .i64 cx] 31)
          have hw7 := hid (hw6.out.trans (hal.mono hw6.out.size))
          have r0 := (blk_cell (heap_alloc_new wc (.cells #[.int .i64 f, .int .i64 cx] 31)) 0).trans rfl
          have r1 := (blk_cell (heap_alloc_new wc (.cells #[.int .i64 f, .int .i64 cx] 31)) 1).trans rfl
          obtain ⟨v', w8, hrun, hown8, hgr8, hdis8⟩ := app_one _ u10 H (f, cx) A7.out.own wc.heap.size r0 r1 (by omega)
          obtain ⟨g8, cap8, rfl⟩ := own_slice2 hown8 (by simp)
          obtain ⟨a8, hb8⟩ := A7.out.append hown8 hgr8 hdis8 hw7.out.size
          have A8 := hid a8
          have hw8 := hid (hw7.out.trans hb8)
          have hH2 : (H ++ [(f, cx)]).length = k + 1 := by rw [List.length_append, hHk]; rfl
          clear r0 r1 hal A6 A7 hw6 hw7 X6 hown8 hgr8 hdis8 a8 hb8
          generalize H ++ [(f, cx)] = H2 at *
          rw [hH2] at hrun A8
          go_upto_region 29 with (at_builtin; refine wpList_append_run _ rfl (.tmp 107) (.tmp 109) 32 32 rfl _ _ rfl rfl hrun ?_)
          clear hrun
          go_cut [44, 141] from 44 to 182 (fun s44 s141 wx => s44 = .int .i64 k ∧ wx = w8 ∧ (s141 = .bool false ∨ (s141 = .bool true ∧ k < len2 ∧ ∃ (m : Nat) (hm : m < H2.length), ys k = (m : Int) ∧ 0 < (H2[m]).2)))
          case first =>
            by_cases hb : k < len2
            · obtain ⟨b', off', rfl, hbl', hd0, hz0, hz1⟩ := Hin2.out.2 k hb
              have q0 := (hw8.out.cell (p := ⟨b', off' + k, none⟩) hbl').trans hd0
              have e1 : (k : Int) < (len2 : Int) := by omega
              have e2 : decide (k < len2) = true := decide_eq_true hb
              clear hd0
              by_cases hneg : ys k < 0
              · have d0 : decide (0 ≤ ys k) = false := decide_eq_false (by omega)
                generalize ys k = bk at *
                go_wp2_with fail
                go_meet
                case rel => exact ⟨rfl, rfl, .inl rfl⟩
              · obtain ⟨m, hm⟩ := Int.eq_ofNat_of_zero_le (show 0 ≤ ys k by omega)
                have Hm := hid hm
                rw [hm] at q0
                clear hneg hz0 hz1 hm
                by_cases hml : m < k + 1
                · have hmH : m < H2.length := by omega
                  have c1 := ((own_cells A8.out.own).2.2 m hmH).2
                  have d1 : decide ((m : Int) < (k : Int) + 1) = true := decide_eq_true (by omega)
                  have d1' : decide (m < k + 1) = true := decide_eq_true hml
                  by_cases hpos : 0 < (H2[m]).2
                  · have d2 : decide (0 < (H2[m]).2) = true := decide_eq_true hpos
                    go_wp2_with fail
                    go_meet
                    case rel => exact ⟨rfl, rfl, .inr ⟨rfl, hb, m, hmH, Hm.out, hpos⟩⟩
                  · generalize (H2[m]).2 = cn at *
                    have d2 : decide (0 < cn) = false := decide_eq_false hpos
                    go_wp2_with fail
                    go_meet
                    case rel => exact ⟨rfl, rfl, .inl rfl⟩
                · have d1 : decide ((m : Int) < (k : Int) + 1) = false := decide_eq_false (by omega)
                  have d1' : decide (m < k + 1) = false := decide_eq_false hml
                  go_wp2_with fail
                  go_meet
                  case rel => exact ⟨rfl, rfl, .inl rfl⟩
            · have e1 : decide ((k : Int) < (len2 : Int)) = false := decide_eq_false (by omega)
              have e2 : decide (k < len2) = false := decide_eq_false hb
              go_wp2_with fail
              go_meet
              case rel => exact ⟨rfl, rfl, .inl rfl⟩
          case rest =>
            obtain ⟨rfl, rfl, ⟨rfl⟩ | ⟨rfl, hb, m, hm, hym, hpos⟩⟩ := hcut
            · clear Hin Hin2
              go_wp2_with fail
              refine (left_any p o2 (N : Int) hs2 _ A8.out.sp).mono ?_
              rintro e wf ⟨rfl, hbf⟩
              have Af := hid (A8.out.below hbf)
              have hwf := hid (hw8.out.trans (hbf.mono hw8.out.size))
              clear hbf
              go_wp2_with fail
              go_roundg (len - (k + 1))
              case measure => omega
              case rel => exact ⟨k + 1, o2, hs2, H2, by omega, rfl, by go_num, rfl, hH2, Af, hi2, hwf⟩
            · obtain ⟨b', off', rfl, hbl', hd0, hz0, hz1⟩ := Hin2.out.2 k hb
              rw [hym] at hd0
              have Hd0 := hid hd0
              have q0 := (hw8.out.cell (p := ⟨b', off' + k, none⟩) hbl').trans hd0
              have e1 : (k : Int) < (len2 : Int) := by omega
              have hmk : (m : Int) < (k : Int) + 1 := by omega
              have hmk' : m < k + 1 := by omega
              clear hd0 hz0 hz1 hym
              obtain ⟨c0, c1⟩ := (own_cells A8.out.own).2.2 m hm
              obtain ⟨n0, n1, n2⟩ := hi2.out.one m hm hpos
              have hback := hid (fun hs' => hi2.out.back (hs' := hs') m hm hpos)
              generalize (H2[m]).1 = F0 at *
              generalize (H2[m]).2 = C0 at *
              obtain ⟨F, rfl⟩ := Int.eq_ofNat_of_zero_le n0
              obtain ⟨C, rfl⟩ := Int.eq_ofNat_of_zero_le (show 0 ≤ C0 by omega)
              have Hn2 := hid n2
              have hC1 : (1 : Int) ≤ C := by omega
              have hFC : (F : Int) + C ≤ 4096 := by omega
              have hFC0 : (0 : Int) ≤ (F : Int) + C := by omega
              have hal := (Below.refl _ wc).alloc (Nat.le_refl _) (.cells #[.int .i64 F, .int .i64 C] 31)
              have A9 := hid (A8.out.box #[.int .i64 F, .int .i64 C] 31)
              have X9 := hid (heap_alloc_new wc (.cells #[.int .i64 F, .int .i64 C] 31))
              have hb18 := hid (show wc.heap.size ≠ p ∧ o2 ≠ some wc.heap.size ∧ wc.heap.size ≠ u from by
                obtain ⟨l1, l2, l3, l4⟩ := A8.out.lt
                exact ⟨by omega, fun e => by have := l3 _ e; omega, by omega⟩)
              have hw9 := hid (hw8.out.trans (hal.mono hw8.out.size))
              clear n2 hal A8 hw8 hpos hi2
              go_wp2_with fail
              clear c0 c1 q0
              refine (free_any p o2 (N : Int) F C hs2 _ A9.out.sp).mono ?_
              rintro e w10 (⟨hi, _⟩ | ⟨_, ⟨x, hx1, hx2, hx3⟩, _⟩ | ⟨_, _, hs3, hok3, hfr3, rfl, o3, hsp3, hst3⟩)
              · have : insideB (N : Int) F C = true := by simp [insideB]; omega
                rw [this] at hi
                cases hi
              · rw [Hn2.out x hx1 hx2] at hx3
                cases hx3
              · obtain ⟨a10, hb10⟩ := A9.out.step hst3 hsp3 hw9.out.size
                have X10 := hid ((hst3.aside hb18.out.1 hb18.out.2.1 (blk_lt X9.out)).2.trans X9.out)
                have Hleft := hid (leftOf_add A9.out.sp.ok hok3 (by omega) n0 (by omega) n1 Hn2.out hfr3)
                have hlr := hid (left_range hsp3)
                have Hfr := hid hfr3
                have A10 := hid a10
                have hw10 := hid (hw9.out.trans hb10)
                clear a10 hb10 hsp3 hst3 hok3 hfr3 A9 hw9 X9
                have y0 : _ = some (Value.int .i64 F) := (blk_cell X10.out 0).trans rfl
                have y1 : _ = some (Value.int .i64 C) := (blk_cell X10.out 1).trans rfl
                generalize wc.heap.size = b18 at *
                go_wp2_with fail
                clear y0 y1
                go_loopw [19] (fun b wx => ∃ m' : Nat, F ≤ m' ∧ m' ≤ F + C ∧ b = .int .i64 m' ∧ Hid (Ap w.heap.size wx p o3 u (.slice (some ⟨g8, 0, none⟩) (k + 1) cap8) N hs3 (fun x => freeB hs2 x || spanB F ((m' : Int) - F) x) H2) ∧ Hid (wx.heap[b18]? = some (.cells #[.int .i64 F, .int .i64 C] 31 (0, 0))) ∧ Hid (Below w.heap.size w wx)) (fun b _ => F + C - (intOf b).toNat)
                case atStart => exact ⟨F, Nat.le_refl _, by omega, rfl, hid (A10.out.gcongr (fun x _ => by rw [span_out (by omega)]; simp)), X10, hw10⟩
                case round =>
                  obtain ⟨m', hm0, hm1, rfl, Ar, Xr, hwr⟩ := hrel
                  have y0 : _ = some (Value.int .i64 F) := (blk_cell Xr.out 0).trans rfl
                  have y1 : _ = some (Value.int .i64 C) := (blk_cell Xr.out 1).trans rfl
                  by_cases hmlt : m' < F + C
                  · obtain ⟨r0, r1⟩ := Ar.out.cell m' (by omega)
                    generalize (if (freeB hs2 (m' : Int) || spanB F ((m' : Int) - F) (m' : Int)) = true then (0 : Int) else 1) = z0 at r0
                    have hmN : m' < N := by omega
                    have hmN' : (m' : Int) < (N : Int) := by omega
                    have hmlt' : (m' : Int) < (F : Int) + C := by omega
                    obtain ⟨s0, s1, s2⟩ := Ar.out.set1 (g' := fun x => freeB hs2 x || spanB F (((m' + 1 : Nat) : Int) - F) x) m' true hwr.out.size (fun y hy => by
                      by_cases hym : (y : Int) = m'
                      · rw [if_pos hym, span_in (by omega) (by omega)]; simp
                      · rw [if_neg hym]
                        by_cases hin : (F : Int) ≤ y ∧ (y : Int) < m'
                        · rw [span_in (by omega) (by omega), span_in (by omega) (by omega)]
                        · rw [span_out (by omega), span_out (by omega)])
                    have Ar2 := hid s0
                    have hwr2 := hid (hwr.out.trans s1)
                    have Xr2 := hid ((s2.block b18 (blk_lt Xr.out) hb18.out.2.2).trans Xr.out)
                    clear s0 s1 s2 Xr Ar
                    simp only [if_true] at Ar2 hwr2 Xr2
                    go_wp2_with fail
                    exact ⟨⟨m' + 1, by omega, by omega, by go_num, Ar2, Xr2, hwr2⟩, by simp [intOf]; omega⟩
                  · have hmN : m' = F + C := by omega
                    subst hmN
                    have A11 := hid (Ar.out.gcongr (g' := freeB hs3) (fun x hx => by
                      have e : ((F + C : Nat) : Int) - F = C := by omega
                      rw [e, Hfr.out]
                      rfl))
                    have hl0 : 0 ≤ leftOf hs2 + C := by have := Hleft.out; have := hlr.out; omega
                    have hl1 : leftOf hs2 + C ≤ 4096 := by have := Hleft.out; have := hlr.out; omega
                    have q0 := (hwr.out.cell (p := ⟨b', off' + k, none⟩) hbl').trans Hd0.out
                    have f0 := (own_cells A11.out.own).2.1
                    obtain ⟨d0, d1⟩ := (own_cells A11.out.own).2.2 m hm
                    generalize (H2[m]).1 = z1 at d0
                    generalize (H2[m]).2 = z2 at d1
                    have f1 := f0 (m * 2)
                    have f2 := f0 (m * 2 + 1)
                    obtain ⟨s0, s1⟩ := A11.out.held m 0 0 hwr.out.size
                    have A12 := hid s0
                    have hw12 := hid (hwr.out.trans s1)
                    have hi3 := hid (hback.out hs3 (fun x => Hfr.out x))
                    have hH3 : (H2.set m (0, 0)).length = k + 1 := by rw [List.length_set, hH2]
                    clear Ar s0 s1 f0 A11 hwr Hfr
                    go_upto_region 39 with fail
                    rw [← Hleft.out]
                    clear hl0 hl1 Hleft d0 d1 f1 f2 q0 y0 y1
                    go_wp2_with fail
                    refine (left_any p o3 (N : Int) hs3 _ A12.out.sp).mono ?_
                    rintro e wf ⟨rfl, hbf⟩
                    have Af := hid (A12.out.below hbf)
                    have hwf := hid (hw12.out.trans (hbf.mono hw12.out.size))
                    clear hbf
                    go_wp2_with fail
                    go_roundg (len - (k + 1))
                    case measure => omega
                    case rel => exact ⟨k + 1, o3, hs3, _, by omega, rfl, by go_num, rfl, hH3, Af, hi3, hwf⟩
    · have hkN : k = len := by omega
      subst hkN
      clear Hin Hin2
      go_wp2_with fail
      go_ret
      exact ⟨rfl, hw1.out⟩
end Go.Proofs.Ytedalcocdgmigaa
