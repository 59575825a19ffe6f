/- The walk of ExtentPlays. No statement is proved here. -/
import Derived.Test.YtedalcocdgmigaaRefE
set_option linter.unusedVariables false
set_option linter.unusedSimpArgs false
namespace Go.Proofs.Ytedalcocdgmigaa
open Go.RowKit

theorem agree_new (N : Nat) : Agree (newHoles (N : Int)) (List.replicate (N : Int).toNat false) (N : Int) := by
  intro x h0 h1
  have h2 : usedAt (List.replicate (N : Int).toNat false) x = false := by
    unfold usedAt
    rw [List.getD_eq_getElem?_getD, List.getElem?_replicate]
    split <;> rfl
  rw [h2]
  unfold newHoles
  rw [if_pos (by omega), freeB_cons]
  simp [h0, h1]

set_option maxHeartbeats 4000000 in
set_option maxRecDepth 100000 in
theorem plays_walk (n : Int) (a : Option Addr) (len cap : Nat) (xs : Nat → Int × Int × Int) (w : World) (hin : OpsIn w a len xs) :
    Calls Try.prog 7 #[.int .i64 n, .slice a len cap] w fun e w' => e = .returned (.bool true) ∧ Below w.heap.size w w' := by
  have Hin := hid hin
  have hlen := hin.1
  clear hin
  by_cases hq0 : n < 0
  · go_enter Try.func7, Try.ntmps7
    go_wp2_with fail
    refine (anchor_any _).mono ?_
    rintro e w1 ⟨rfl, hb1⟩
    go_wp2_with fail
    refine (new_bad n _ (.inl hq0)).mono ?_
    rintro e w2 ⟨rfl, rfl⟩
    go_wp2_with fail
    refine (rnew_bad n _ (.inl hq0)).mono ?_
    rintro e w2 ⟨rfl, rfl⟩
    go_wp2_with fail
    all_goals go_ret
    all_goals exact ⟨rfl, hb1⟩
  by_cases hq1 : 4096 < n
  · go_enter Try.func7, Try.ntmps7
    go_wp2_with fail
    refine (anchor_any _).mono ?_
    rintro e w1 ⟨rfl, hb1⟩
    go_wp2_with fail
    refine (new_bad n _ (.inr hq1)).mono ?_
    rintro e w2 ⟨rfl, rfl⟩
    go_wp2_with fail
    refine (rnew_bad n _ (.inr hq1)).mono ?_
    rintro e w2 ⟨rfl, rfl⟩
    go_wp2_with fail
    all_goals go_ret
    all_goals exact ⟨rfl, hb1⟩
  obtain ⟨N, rfl⟩ := Int.eq_ofNat_of_zero_le (show 0 ≤ n by omega)
  have hN2 : (N : Int) ≤ 4096 := by omega
  go_enter Try.func7, Try.ntmps7
  go_wp2_with fail
  refine (anchor_any _).mono ?_
  rintro e w1 ⟨rfl, hb1⟩
  go_wp2_with fail
  refine (new_good (N : Int) _ (by omega) (by omega)).mono ?_
  rintro e w2 ⟨p, o, rfl, hsp, hp, ho, hb2⟩
  have hb2' : Below w.heap.size w w2 := hb1.trans (hb2.mono hb1.size)
  have hnw : SpNew w.heap.size p o := ⟨Nat.le_trans hb1.size hp, fun k hk => Nat.le_trans hb1.size (ho k hk)⟩
  have Hsp := hid hsp
  have Hnw := hid hnw
  clear hsp ho hp hb1 hb2 hnw hq0 hq1
  go_wp2_with fail
  refine (rnew_good (N : Int) _ (by omega) (by omega)).mono ?_
  rintro e w3 ⟨r, u, rfl, hrf, hr, hu, hb3⟩
  have hb3' := hb2'.trans (hb3.mono hb2'.size)
  have T3 : Hid (Two w.heap.size w3 p o (N : Int) (newHoles (N : Int)) r u (List.replicate (N : Int).toNat false)) := hid
    ⟨Hsp.out.below hb3, hrf, agree_new N, by have := Hsp.out.lt.1; omega, by have := Hsp.out.lt.1; omega, fun he => by have := Hsp.out.lt.2 _ he; omega, fun he => by have := Hsp.out.lt.2 _ he; omega, Hnw.out, Nat.le_trans hb2'.size hr, Nat.le_trans hb2'.size hu⟩
  clear Hsp Hnw hrf hr hu hb3 hb2'
  go_wp2_with fail
  go_loopw [37] (fun i wr => ∃ (k : Nat) (o' : Option Nat) (hs : List (Int × Int)) (us : List Bool), k ≤ len ∧ i = .int .i64 k ∧ Hid (Two w.heap.size wr p o' (N : Int) hs r u us) ∧ Below w.heap.size w wr) (fun i _ => len - (intOf i).toNat)
  case atStart => exact ⟨0, o, _, _, Nat.zero_le _, rfl, T3, hb3'⟩
  case round =>
    obtain ⟨k, o', hs, us, hk, rfl, T, hbel⟩ := hrel
    by_cases hlt : k < len
    · obtain ⟨b, off, rfl, hbl, hc0, hc1, hc2, hx0, hx1, hx2⟩ := Hin.out.2 k hlt
      have q0 := (hbel.cell (p := ⟨b, off + k * 3, none⟩) hbl).trans hc0
      have q1 := (hbel.cell (p := ⟨b, off + k * 3 + 1, none⟩) hbl).trans hc1
      have q2 := (hbel.cell (p := ⟨b, off + k * 3 + 2, none⟩) hbl).trans hc2
      have hk64 : (k : Int) < (len : Int) := by omega
      have hk63 : (k : Int) + 1 ≤ 9223372036854775807 := by omega
      have hal := (Below.refl _ wr).alloc (Nat.le_refl _) (.cells #[.int .i64 (xs k).1, .int .i64 (xs k).2.1, .int .i64 (xs k).2.2] 46)
      have Ta := hid (T.out.below hal)
      have hba := hid (hbel.trans (hal.mono hbel.size))
      clear hc0 hc1 hc2 hal
      generalize (xs k).1 = kd at *
      generalize (xs k).2.1 = fr at *
      generalize (xs k).2.2 = ct at *
      go_wp2_with fail
      refine (step_any w.heap.size _ p r u o' (N : Int) hs us kd fr ct hba.out.size Ta.out hx1.1 hx1.2 hx2.1 hx2.2).mono ?_
      rintro e w4 ⟨rfl, o4, hs4, us4, t4, hb4⟩
      have T4 := hid t4
      have hb4' := hba.out.trans hb4
      clear t4 hb4 hbel T
      go_wp2_with fail
      exact ⟨⟨k + 1, o4, hs4, us4, by omega, by go_num, T4, hb4'⟩, by simp [intOf]; omega⟩
    · have hkN : k = len := by omega
      subst hkN
      clear Hin T3 hb3'
      go_wp2_with fail
      refine (tells_any _ p r u o' (N : Int) hs us T.out.sp T.out.rf T.out.ag).mono ?_
      rintro e w4 ⟨rfl, hb4⟩
      have hb4' := hbel.trans (hb4.mono hbel.size)
      clear hb4 hbel T
      go_wp2_with fail
      go_ret
      exact ⟨rfl, hb4'⟩
end Go.Proofs.Ytedalcocdgmigaa
