/- The walk of ExtentWhole. No statement is proved here. -/
import Derived.Test.YtedalcocdgmigaaExtN
import Derived.Test.YtedalcocdgmigaaExtO
import Derived.Test.YtedalcocdgmigaaExtQ
import Derived.Deep.LoopGhost
set_option linter.unusedVariables false
set_option linter.unusedSimpArgs false
namespace Go.Proofs.Ytedalcocdgmigaa
open Go.RowKit

/-- A slice of ints that came in. -/
def IntsIn (w : World) (a : Option Addr) (len : Nat) (xs : Nat → Int) : Prop := len ≤ 9223372036854775807 ∧ ∀ i, i < len → ∃ b off, a = some ⟨b, off, none⟩ ∧ b < w.heap.size ∧ w.cell? ⟨b, off + i, none⟩ = some (.int .i64 (xs i)) ∧ -9223372036854775808 ≤ xs i ∧ xs i ≤ 9223372036854775807

/-- Alloc, whatever the count. -/
def AnyPost (w : World) (p : Nat) (o : Option Nat) (n : Int) (e : Ending) (w' : World) : Prop := ∃ v1 v2 o' hs', e = .returned (.tuple #[v1, v2]) ∧ Sp w' p o' n hs' ∧ SpStep w w' p o o'
theorem alloc_whatever (p : Nat) (o : Option Nat) (n c : Int) (hs : List (Int × Int)) (w : World) (h : Sp w p o n hs) (hc2 : c ≤ 9223372036854775807) :
    Calls Try.prog 17 #[.pointer (some ⟨p, 0, none⟩), .int .i64 c] w (AnyPost w p o n) := by
  by_cases hc : c < 1
  · refine (alloc_bad p c w hc).mono ?_
    rintro e w' ⟨rfl, hb⟩
    exact ⟨_, _, o, hs, rfl, h.below hb, SpStep.of_below hb⟩
  · refine (alloc_good p o n c hs w h (by omega) hc2).mono ?_
    rintro e w' (⟨A, h', B, _, _, _, rfl, o', hsp, hst⟩ | ⟨_, rfl, hb⟩)
    · exact ⟨_, _, o', _, rfl, hsp, hst⟩
    · exact ⟨_, _, o, hs, rfl, h.below hb, SpStep.of_below hb⟩
/-- Alloc(1) where something is left. -/
def OnePost (w : World) (p : Nat) (o : Option Nat) (n : Int) (hs : List (Int × Int)) (e : Ending) (w' : World) : Prop := ∃ x o' hs', e = .returned (.tuple #[pairV x 1, .int .i64 0]) ∧ Sp w' p o' n hs' ∧ SpStep w w' p o o' ∧ leftOf hs' = leftOf hs - 1
theorem alloc_one (p : Nat) (o : Option Nat) (n : Int) (hs : List (Int × Int)) (w : World) (h : Sp w p o n hs) (hl : 0 < leftOf hs) :
    Calls Try.prog 17 #[.pointer (some ⟨p, 0, none⟩), .int .i64 1] w (OnePost w p o n hs) := by
  refine (alloc_good p o n 1 hs w h (by omega) (by omega)).mono ?_
  rintro e w' (⟨A, h', B, rfl, _, h2, rfl, o', hsp, hst⟩ | ⟨hno, rfl, hb⟩)
  · exact ⟨_, o', _, rfl, hsp, hst, leftOf_cut A B h' 1 (by omega) h2⟩
  · exfalso
    cases hs with
    | nil => simp [leftOf] at hl
    | cons y r =>
      have h1 := (h.ok.mem y (by simp)).2.1
      have h2 := hno y (by simp)
      omega

set_option maxHeartbeats 4000000 in
set_option maxRecDepth 100000 in
theorem whole_walk (n : Int) (a : Option Addr) (len cap : Nat) (xs : Nat → Int) (f : Int) (w : World) (hin : IntsIn w a len xs) :
    Calls Try.prog 6 #[.int .i64 n, .slice a len cap, .int .i64 f] w fun e w' => e = .returned (.bool true) ∧ Below w.heap.size w w' := by
  have Hin := hid hin
  have hlen := hin.1
  clear hin
  by_cases hq0 : n < 1
  · go_enter Try.func6, Try.ntmps6
    go_wp2_with fail
    refine (anchor_any _).mono ?_
    rintro e w1 ⟨rfl, hb1⟩
    go_wp2_with fail
    all_goals go_ret
    all_goals exact ⟨rfl, hb1⟩
  by_cases hq1 : 4096 < n
  · go_enter Try.func6, Try.ntmps6
    go_wp2_with fail
    refine (anchor_any _).mono ?_
    rintro e w1 ⟨rfl, hb1⟩
    go_wp2_with fail
    all_goals go_ret
    all_goals exact ⟨rfl, hb1⟩
  by_cases hq2 : f < 0
  · go_enter Try.func6, Try.ntmps6
    go_wp2_with fail
    refine (anchor_any _).mono ?_
    rintro e w1 ⟨rfl, hb1⟩
    go_wp2_with fail
    all_goals go_ret
    all_goals exact ⟨rfl, hb1⟩
  by_cases hq3 : n ≤ f
  · go_enter Try.func6, Try.ntmps6
    go_wp2_with fail
    refine (anchor_any _).mono ?_
    rintro e w1 ⟨rfl, hb1⟩
    go_wp2_with fail
    all_goals go_ret
    all_goals exact ⟨rfl, hb1⟩
  obtain ⟨N, rfl⟩ := Int.eq_ofNat_of_zero_le (show 0 ≤ n by omega)
  have hN1 : (1 : Int) ≤ (N : Int) := by omega
  have hN2 : (N : Int) ≤ 4096 := by omega
  have hf0 : 0 ≤ f := by omega
  have hfN : f < (N : Int) := by omega
  go_enter Try.func6, Try.ntmps6
  go_wp2_with fail
  refine (anchor_any _).mono ?_
  rintro e w1 ⟨rfl, hb1⟩
  go_wp2_with fail
  refine (new_good (N : Int) _ (by omega) (by omega)).mono ?_
  rintro e w2 ⟨p, o, rfl, hsp, hp, ho, hb2⟩
  have hb2' : Below w.heap.size w w2 := hb1.trans (hb2.mono hb1.size)
  have hnw : SpNew w.heap.size p o := ⟨Nat.le_trans hb1.size hp, fun k hk => Nat.le_trans hb1.size (ho k hk)⟩
  have Hsp := hid hsp
  have Hnw := hid hnw
  clear hsp ho hp hb1 hb2 hnw hq0 hq1 hq2 hq3
  go_wp2_with fail
  go_loopw [46] (fun i wr => ∃ (k : Nat) (o' : Option Nat) (hs : List (Int × Int)), k ≤ len ∧ i = .int .i64 k ∧ Hid (Sp wr p o' (N : Int) hs) ∧ Hid (SpNew w.heap.size p o') ∧ Below w.heap.size w wr) (fun i _ => len - (intOf i).toNat)
  case atStart => exact ⟨0, o, _, Nat.zero_le _, rfl, Hsp, Hnw, hb2'⟩
  case round =>
    obtain ⟨k, o', hs, hk, rfl, Hs, Hn, hbel⟩ := hrel
    by_cases hlt : k < len
    · obtain ⟨b, off, rfl, hbl, hc0, hx0, hx1⟩ := Hin.out.2 k hlt
      have hc1 := (hbel.cell (p := ⟨b, off + k, none⟩) hbl).trans hc0
      have hk64 : (k : Int) < (len : Int) := by omega
      have hk63 : (k : Int) + 1 ≤ 9223372036854775807 := by omega
      clear hc0
      go_wp2_with fail
      refine (alloc_whatever p o' (N : Int) (xs k) hs wr Hs.out hx1).mono ?_
      rintro e w3 ⟨v1, v2, o3, hs', rfl, hsp3, hst3⟩
      obtain ⟨hn3, hb3⟩ := Hn.out.step hst3 hbel.size
      have Hs3 := hid hsp3
      have Hn3 := hid hn3
      have hb3' := hbel.trans hb3
      clear hsp3 hst3 hn3 hbel hb3
      go_wp2_with fail
      exact ⟨⟨k + 1, o3, hs', by omega, by go_num, Hs3, Hn3, hb3'⟩, by simp [intOf]; omega⟩
    · have hkN : k = len := by omega
      subst hkN
      clear Hsp Hnw hb2' Hin
      go_wp2_with fail
      go_loopg [11] ((leftOf hs).toNat) (fun m s11 wr => ∃ (o' : Option Nat) (hs : List (Int × Int)), m = (leftOf hs).toNat ∧ Hid (Sp wr p o' (N : Int) hs) ∧ Hid (SpNew w.heap.size p o') ∧ Below w.heap.size w wr)
      case atStart => exact ⟨o', hs, rfl, Hs, Hn, hbel⟩
      case round =>
        clear Hs Hn hbel
        obtain ⟨o', hs, rfl, Hs, Hn, hbel⟩ := hrel
        have hlf := (Hs.out.ok.left (by have := Hs.out.n0; omega))
        obtain ⟨hlf0, hlf1⟩ := hlf
        go_wp2_with fail
        refine (left_any p o' _ hs wr Hs.out).mono ?_
        rintro e w3 ⟨rfl, hb3⟩
        have Hs3 := hid (Hs.out.below hb3)
        have hb3' := hbel.trans (hb3.mono hbel.size)
        clear hbel hb3 Hs
        by_cases hpos : 0 < leftOf hs
        · go_wp2_with fail
          refine (alloc_one p o' _ hs w3 Hs3.out hpos).mono ?_
          rintro e w4 ⟨x, o4, hs4, rfl, hsp4, hst4, hl4⟩
          obtain ⟨hn4, hb4⟩ := Hn.out.step hst4 hb3'.size
          have Hs4 := hid hsp4
          have Hn4 := hid hn4
          have hb4' := hb3'.trans hb4
          have Hl4 := hid hl4
          unfold pairV
          clear hsp4 hst4 hn4 hb3' hb4 hl4
          go_wp2_with fail
          go_roundg ((leftOf hs4).toNat)
          case rel => exact ⟨o4, hs4, rfl, hid (Hs4.out.below ((Below.refl _ _).alloc (Nat.le_refl _) _)), Hn4, hb4'.alloc hb4'.size _⟩
          case measure => rw [Hl4.out]; omega
        · have hnil : hs = [] := by
            by_cases h : hs = []
            · exact h
            · exact absurd (leftOf_pos Hs3.out.ok h) hpos
          subst hnil
          go_wp2_with fail
          refine (largest_any p o' _ [] w3 Hs3.out).mono ?_
          rintro e w4 ⟨rfl, hb4⟩
          have Hs4 := hid (Hs3.out.below hb4)
          have hb4' := hb3'.trans (hb4.mono hb3'.size)
          have hbig : bigOf [] = 0 := rfl
          rw [hbig]
          clear hb4 hb3' Hs3
          go_wp2_with fail
          refine (holes_any p o' _ [] w4 Hs4.out).mono ?_
          rintro e w5 ⟨g5, c5, rfl, _, hg5, hb5⟩
          have Hs5 := hid (Hs4.out.below hb5)
          have hb5' := hb4'.trans (hb5.mono hb4'.size)
          simp only [List.length_nil]
          clear hb5 hb4' Hs4 hg5
          go_wp2_with fail
          go_loopw [13] (fun i wr => ∃ (k : Nat) (o' : Option Nat) (hs : List (Int × Int)), k ≤ N ∧ i = .int .i64 k ∧ Hid (Sp wr p o' (N : Int) hs) ∧ Hid (∀ x, freeB hs x = wholeF N f k x) ∧ Hid (leftOf hs = k) ∧ Hid (SpNew w.heap.size p o') ∧ Below w.heap.size w wr) (fun i _ => N - (intOf i).toNat)
          case atStart => exact ⟨0, o', [], Nat.zero_le _, rfl, Hs5, hid (fun x => (wholeF_zero (N : Int) f x (by omega)).symm), hid rfl, Hn, hb5'⟩
          case round =>
            clear Hn Hs5 hb5'
            obtain ⟨k, o', hs, hk, rfl, Hs, Hf, Hl, Hn, hbel⟩ := hrel
            by_cases hkN : k < N
            · have hk0 : (k : Int) < (N : Int) := by omega
              have hm0 := Int.emod_nonneg (f + k) (show (N : Int) ≠ 0 by omega)
              have hm1 := Int.emod_lt_of_pos (f + k) (show 0 < (N : Int) by omega)
              have htm : Int.tmod (f + k) N = (f + k) % N := Int.tmod_eq_emod_of_nonneg (by omega)
              go_wp2_with fail
              generalize hbd : (f + (k : Int)) % (N : Int) = bq at *
              refine (free_any p o' _ bq 1 hs wr Hs.out).mono ?_
              have hins : insideB (N : Int) bq 1 = true := by simp [insideB]; omega
              have hused : ∀ x, bq ≤ x → x < bq + 1 → freeB hs x = false := fun x h1 h2 => by
                have hx : x = bq := by omega
                rw [Hf.out, hx, ← hbd, wholeF_at N f k (by omega) (by omega) hk0]
              rintro e w6 (⟨h1, _⟩ | ⟨_, ⟨x, hx1, hx2, hx3⟩, _⟩ | ⟨_, hall, hs', hok', hfr', rfl, o6, hsp6, hst6⟩)
              · rw [hins] at h1; cases h1
              · rw [hused x hx1 hx2] at hx3; cases hx3
              · obtain ⟨hn6, hb6⟩ := Hn.out.step hst6 hbel.size
                have Hs6 := hid hsp6
                have Hn6 := hid hn6
                have hb6' := hbel.trans hb6
                have Hf6 : Hid (∀ x, freeB hs' x = wholeF N f ((k + 1 : Nat) : Int) x) := hid fun x => by rw [hfr', Hf.out, Int.natCast_add, Int.natCast_one, wholeF_step N f k x (by omega) (by omega) hk0, hbd]
                have hl6 : leftOf hs' = (k : Int) + 1 := by rw [leftOf_add Hs.out.ok hok' (by omega) hm0 (by omega) (by omega) hused hfr', Hl.out]
                have Hl6 : Hid (leftOf hs' = ((k + 1 : Nat) : Int)) := hid (by rw [hl6]; omega)
                have Hl6' := hid hl6
                clear hsp6 hst6 hn6 hall hok' hfr' hins hused hbel hb6 hl6 hbd Hs Hf Hn Hl
                go_wp2_with fail
                refine (left_any p o6 _ hs' w6 Hs6.out).mono ?_
                rintro e w7 ⟨rfl, hb7⟩
                have Hs7 := hid (Hs6.out.below hb7)
                have hb7' := hb6'.trans (hb7.mono hb6'.size)
                rw [Hl6'.out]
                clear hb7 hb6' Hs6
                go_wp2_with fail
                exact ⟨⟨k + 1, o6, hs', by omega, by go_num, Hs7, Hf6, Hl6, Hn6, hb7'⟩, by simp [intOf]; omega⟩
            · have hkN : k = N := by omega
              subst hkN
              have hfull : hs = [(0, (k : Int))] := okFrom_unique Hs.out.ok (show okFrom 0 (k : Int) [(0, (k : Int))] from ⟨by simp, by simp; omega, by simp, trivial⟩) (fun x => by rw [Hf.out, wholeF_end (k : Int) f x (by omega)])
              subst hfull
              clear Hf Hl Hn
              go_wp2_with fail
              refine (holes_any p o' _ _ wr Hs.out).mono ?_
              rintro e w6 ⟨g6, c6, rfl, own6, hg6, hb6⟩
              have Hs6 := hid (Hs.out.below hb6)
              have hb6' := hbel.trans (hb6.mono hbel.size)
              obtain ⟨_, _, gc⟩ := own_cells own6
              obtain ⟨q0, q1⟩ := gc 0 (by simp)
              simp only [List.length_cons, List.length_nil, Nat.zero_add, Nat.zero_mul, List.getElem_cons_zero] at q0 q1 ⊢
              clear own6 gc hg6 hb6 hbel Hs
              go_wp2_with fail
              refine (largest_any p o' _ _ w6 Hs6.out).mono ?_
              rintro e w7 ⟨rfl, hb7⟩
              have hb7' := hb6'.trans (hb7.mono hb6'.size)
              have hbk : bigOf [(0, (k : Int))] = k := by simp [bigOf]
              rw [hbk]
              clear hb7 hb6' Hs6 hbk
              go_wp2_with fail
              go_ret
              exact ⟨rfl, hb7'⟩
end Go.Proofs.Ytedalcocdgmigaa
