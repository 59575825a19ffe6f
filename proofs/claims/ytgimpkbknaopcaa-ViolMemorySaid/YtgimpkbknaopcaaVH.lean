/- The library's heap over puts: down, up, Fix. No statement is proved here. -/
import Derived.Test.YtgimpkbknaopcaaVG
import Derived.Test.YtgimpkbknaopcaaVF
import Derived.Sort.LotB
import Derived.Sort.WalkB2
import Derived.Deep.LoopGhost
import Derived.Deep.Cut
import Derived.Deep.CutRange
set_option linter.unusedVariables false
set_option linter.unusedSimpArgs false
namespace Go.Proofs.Ytgimpkbknaopcaa
open Go.RowKit Go.Shelf Go.Lib
open Go.Sort hiding Below

theorem m_len {t : Nat} {w : World} {v : Value} (h : w.cell? ⟨t, 2, none⟩ = some v) : Sem.run Try.prog (method 219 57 (.pointer (some ⟨t, 2, none⟩)) "Len") w = .ok (75, v) w := (m_len0 t w).trans (run_ld _ h)
theorem m_less {t : Nat} {w : World} {v : Value} (h : w.cell? ⟨t, 2, none⟩ = some v) : Sem.run Try.prog (method 219 57 (.pointer (some ⟨t, 2, none⟩)) "Less") w = .ok (76, v) w := (m_less0 t w).trans (run_ld _ h)
theorem m_swap {t : Nat} {w : World} {v : Value} (h : w.cell? ⟨t, 2, none⟩ = some v) : Sem.run Try.prog (method 219 57 (.pointer (some ⟨t, 2, none⟩)) "Swap") w = .ok (77, v) w := (m_swap0 t w).trans (run_ld _ h)

section
variable {w w1 w2 : World} {g t : Nat} {d dk : Array Pt}
theorem swk_upd {α : Type} [Inhabited α] {enc : α → List Value} {k off : Nat} {dk : Array α} (S : SWK enc k w g off dk w1) : Upd (fun b => b = g) w w1 := by
  obtain ⟨n, os, rfl⟩ := S
  unfold sortWorldK putRowK putRow mapBlock grow Go.Sort.ahead
  refine ⟨rfl, rfl, rfl, by simp, fun b hb hne => ?_⟩
  simp only
  rw [Array.getElem?_append_left (by simpa using hb), Array.getElem?_modify, if_neg (fun e => hne e.symm)]
theorem swk_cell2 (S : SWK encP 13 w g 0 dk w1) {v : Value} (ht : t < w.heap.size) (htg : t ≠ g) (h : w.cell? ⟨t, 2, none⟩ = some v) : w1.cell? ⟨t, 2, none⟩ = some v :=
  ((swk_upd S).cell (p := ⟨t, 2, none⟩) ht htg).trans h
theorem swk_laid (S : SWK encP 13 w g 0 dk w1) (h : Laid w1 w2) : SWK encP 13 w g 0 dk w2 := by
  obtain ⟨q, os, rfl⟩ := h
  exact S.grown q os
theorem swk_trans {dk' : Array Pt} (S : SWK encP 13 w g 0 dk w1) (hg : g < w.heap.size) (hs : dk'.size = dk.size) (T : SWK encP 13 w1 g 0 dk' w2) : SWK encP 13 w g 0 dk' w2 := by
  obtain ⟨n, os, rfl⟩ := T
  exact S.on hg n dk' os hs
theorem len_any (v : Value) (n : Nat) (a : Option Addr) (cap : Nat) (w : World) (hn : n ≤ 9223372036854775807) : Calls Try.prog 75 #[.slice a n cap] w fun e w' => e = .returned (.int .i64 n) ∧ w' = w := by
  go_enter Try.func75, Try.ntmps75
  go_wp2
  go_ret
  exact ⟨rfl, rfl⟩
theorem beh_lt (x y : Pt) : behindB y x = ltOf cfP x y := by
  rw [Bool.eq_iff_iff, behind_iff, lt_iff]
end

/-- up, as plain data. -/
def upA (d : Array Pt) (j : Nat) : Array Pt :=
  if h : j = 0 then d
  else if ltOf cfP d[(j - 1) / 2]! d[j]! = true then upA (swp d ((j - 1) / 2) j) ((j - 1) / 2) else d
termination_by j
decreasing_by omega
theorem upA_zero (d : Array Pt) : upA d 0 = d := by rw [upA]; simp
theorem upA_stop (d : Array Pt) (j : Nat) (h : ltOf cfP d[(j - 1) / 2]! d[j]! = false) : upA d j = d := by
  rw [upA]
  by_cases hj : j = 0
  · rw [dif_pos hj]
  · rw [dif_neg hj, h]; simp
theorem upA_go (d : Array Pt) (j : Nat) (hj : j ≠ 0) (h : ltOf cfP d[(j - 1) / 2]! d[j]! = true) : upA d j = upA (swp d ((j - 1) / 2) j) ((j - 1) / 2) := by
  rw [upA, dif_neg hj, if_pos h]
def DownPost (w : World) (g n i0 : Nat) (d : Array Pt) (e : Ending) (w' : World) : Prop := ∃ b : Bool, e = .returned (.bool b) ∧ SWK encP 13 w g 0 (siftDown (ltOf cfP) n 0 i0 d) w'

set_option maxHeartbeats 4000000 in
set_option maxRecDepth 1000000 in
theorem down_any (t g cap i0 n : Nat) (d : Array Pt) (w : World) (hn : d.size = n) (hi0 : i0 ≤ n) (ht : t < w.heap.size) (hg : g < w.heap.size) (htg : t ≠ g) (hsz : n < 2305843009213693952)
    (hc2 : w.cell? ⟨t, 2, none⟩ = some (.slice (some ⟨g, 0, none⟩) n cap)) (hH : HoldsK encP 13 w g 0 d) :
    Calls Try.prog 34 #[(.iface 57 (.pointer (some ⟨t, 2, none⟩))), .int .i64 i0, .int .i64 n] w (DownPost w g n i0 d) := by
  have HH := hid hH
  have S0 : Hid (SWK encP 13 w g 0 d w) := hid (SWK.start hH)
  have less := fun (dk : Array Pt) (wr : World) (S : SWK encP 13 w g 0 dk wr) (hs : dk.size = n) (i j : Nat) (hi : i < n) (hj : j < n) => by
    have h := less_any g cap dk i j wr (S.holds hg hH (hs.trans hn.symm)) (S.lt hg) (by omega) (by omega) (by omega)
    rw [hs] at h
    exact h
  have swap := fun (dk : Array Pt) (wr : World) (S : SWK encP 13 w g 0 dk wr) (hs : dk.size = n) (i j : Nat) (hi : i < n) (hj : j < n) => by
    have h := swap_any g cap dk i j wr (S.holds hg hH (hs.trans hn.symm)) (S.lt hg) (by omega) (by omega) (by omega)
    rw [hs] at h
    exact h
  have Less := hid less
  have Swap := hid swap
  clear hH less swap
  go_enter Try.func34, Try.ntmps34
  go_wp2_with fail
  go_loopg [7] (n - i0) (fun gh s7 wr => ∃ (i : Nat) (dk : Array Pt), s7 = .int .i64 i ∧ gh = n - i ∧ dk.size = n ∧ i ≤ n ∧ Hid (SWK encP 13 w g 0 dk wr) ∧ Hid (siftDown (ltOf cfP) n 0 i dk = siftDown (ltOf cfP) n 0 i0 d))
  case atStart => exact ⟨i0, d, rfl, rfl, hn, hi0, S0, hid rfl⟩
  case round =>
    clear S0
    obtain ⟨i, dk, rfl, rfl, hs, hin, S, hE⟩ := hrel
    by_cases h1 : n ≤ 2 * i + 1
    · have d1 : decide ((n : Int) ≤ 2 * (i : Int) + 1) = true := decide_eq_true (by omega)
      have Hend := hid (sd_end (lt := ltOf cfP) (F := 0) dk h1)
      go_wp2_with fail
      go_ret
      exact ⟨_, rfl, by rw [← hE.out, Hend.out]; exact S.out⟩
    · have d1 : decide ((n : Int) ≤ 2 * (i : Int) + 1) = false := decide_eq_false (by omega)
      have d2 : decide (2 * (i : Int) + 1 < 0) = false := decide_eq_false (by omega)
      have h1' : 2 * (i : Int) + 1 < n := by omega
      have hlt1 : 2 * i + 1 < n := by omega
      by_cases h2 : 2 * i + 2 < n
      · have d3 : decide (2 * (i : Int) + 1 + 1 < n) = true := decide_eq_true (by omega)
        cases hv1 : ltOf cfP dk[2 * i + 1]! dk[2 * i + 2]! with
        | true =>
          have hL1 := Less.out dk wr S.out hs (2 * i + 2) (2 * i + 1) (by omega) (by omega)
          have ea1 : (((2 * i + 2 : Nat)) : Int) = 2 * (i : Int) + 1 + 1 := by omega
          have eb1 : (((2 * i + 1 : Nat)) : Int) = 2 * (i : Int) + 1 := by omega
          rw [beh_lt, hv1, ea1, eb1] at hL1
          clear ea1 eb1
          have c2 := swk_cell2 S.out ht htg hc2
          have mL := m_less (t := t) c2
          have mS := m_swap (t := t) c2
          have mN := m_len (t := t) c2
          have HL1 := hid hL1
          clear hL1
          go_wp2_with fail
          refine HL1.out.mono ?_
          rintro e w5 ⟨rfl, hl1⟩
          have Sw5 := hid (swk_laid S.out hl1)
          clear hl1 HL1 S c2 mL mS mN
          cases hv2 : ltOf cfP dk[i]! dk[2 * i + 2]! with
          | true =>
            have hL2 := Less.out dk w5 Sw5.out hs (2 * i + 2) (i) (by omega) (by omega)
            have ea2 : (((2 * i + 2 : Nat)) : Int) = 2 * (i : Int) + 1 + 1 := by omega
            have eb2 : (((i : Nat)) : Int) = (i : Int) := by omega
            rw [beh_lt, hv2, ea2, eb2] at hL2
            clear ea2 eb2
            have c2 := swk_cell2 Sw5.out ht htg hc2
            have mL := m_less (t := t) c2
            have mS := m_swap (t := t) c2
            have mN := m_len (t := t) c2
            have HL2 := hid hL2
            clear hL2
            go_wp2_with fail
            refine HL2.out.mono ?_
            rintro e w6 ⟨rfl, hl2⟩
            have Sw6 := hid (swk_laid Sw5.out hl2)
            clear hl2 HL2 Sw5 c2 mL mS mN
            have hW := Swap.out dk w6 Sw6.out hs (i) (2 * i + 2) (by omega) (by omega)
            have ea : (((i : Nat)) : Int) = (i : Int) := by omega
            have eb : (((2 * i + 2 : Nat)) : Int) = 2 * (i : Int) + 1 + 1 := by omega
            rw [ea, eb] at hW
            clear ea eb
            have c2 := swk_cell2 Sw6.out ht htg hc2
            have mL := m_less (t := t) c2
            have mS := m_swap (t := t) c2
            have mN := m_len (t := t) c2
            have HW := hid hW
            clear hW
            go_wp2_with fail
            refine HW.out.mono ?_
            rintro e w9 ⟨rfl, hT⟩
            have S9 := hid (swk_trans Sw6.out hg (by rw [size_swp]) hT)
            have hs9 : (swp dk (i) (2 * i + 2)).size = n := by rw [size_swp]; exact hs
            have hE9 : Hid (siftDown (ltOf cfP) n 0 (2 * i + 2) (swp dk (i) (2 * i + 2)) = siftDown (ltOf cfP) n 0 i0 d) := hid (by rw [← hE.out]; exact (show siftDown (ltOf cfP) n 0 i dk = siftDown (ltOf cfP) n 0 (2 * i + 2) (swp dk (i) (2 * i + 2)) from by simpa only [Nat.zero_add] using sd_right_go (lt := ltOf cfP) (hi := n) (F := 0) (root := i) dk (by simpa only [Nat.zero_add] using h2) (by simpa only [Nat.zero_add] using hv1) (by simpa only [Nat.zero_add] using hv2)).symm)
            clear hT HW c2 mL mS mN Sw6 hE
            go_wp2_with fail
            go_roundg (n - (2 * i + 2))
            case measure => omega
            case rel => exact ⟨2 * i + 2, swp dk (i) (2 * i + 2), by go_num, rfl, hs9, by omega, S9, hE9⟩
          | false =>
            have hL2 := Less.out dk w5 Sw5.out hs (2 * i + 2) (i) (by omega) (by omega)
            have ea2 : (((2 * i + 2 : Nat)) : Int) = 2 * (i : Int) + 1 + 1 := by omega
            have eb2 : (((i : Nat)) : Int) = (i : Int) := by omega
            rw [beh_lt, hv2, ea2, eb2] at hL2
            clear ea2 eb2
            have c2 := swk_cell2 Sw5.out ht htg hc2
            have mL := m_less (t := t) c2
            have mS := m_swap (t := t) c2
            have mN := m_len (t := t) c2
            have HL2 := hid hL2
            clear hL2
            go_wp2_with fail
            refine HL2.out.mono ?_
            rintro e w6 ⟨rfl, hl2⟩
            have Sw6 := hid (swk_laid Sw5.out hl2)
            clear hl2 HL2 Sw5 c2 mL mS mN
            have Hend := hid (show siftDown (ltOf cfP) n 0 i dk = dk from by simpa only [Nat.zero_add] using sd_right_stop (lt := ltOf cfP) (hi := n) (F := 0) (root := i) dk (by simpa only [Nat.zero_add] using h2) (by simpa only [Nat.zero_add] using hv1) (by simpa only [Nat.zero_add] using hv2))
            go_wp2_with fail
            go_ret
            exact ⟨_, rfl, by rw [← hE.out, Hend.out]; exact Sw6.out⟩
        | false =>
          have hL1 := Less.out dk wr S.out hs (2 * i + 2) (2 * i + 1) (by omega) (by omega)
          have ea1 : (((2 * i + 2 : Nat)) : Int) = 2 * (i : Int) + 1 + 1 := by omega
          have eb1 : (((2 * i + 1 : Nat)) : Int) = 2 * (i : Int) + 1 := by omega
          rw [beh_lt, hv1, ea1, eb1] at hL1
          clear ea1 eb1
          have c2 := swk_cell2 S.out ht htg hc2
          have mL := m_less (t := t) c2
          have mS := m_swap (t := t) c2
          have mN := m_len (t := t) c2
          have HL1 := hid hL1
          clear hL1
          go_wp2_with fail
          refine HL1.out.mono ?_
          rintro e w5 ⟨rfl, hl1⟩
          have Sw5 := hid (swk_laid S.out hl1)
          clear hl1 HL1 S c2 mL mS mN
          cases hv2 : ltOf cfP dk[i]! dk[2 * i + 1]! with
          | true =>
            have hL2 := Less.out dk w5 Sw5.out hs (2 * i + 1) (i) (by omega) (by omega)
            have ea2 : (((2 * i + 1 : Nat)) : Int) = 2 * (i : Int) + 1 := by omega
            have eb2 : (((i : Nat)) : Int) = (i : Int) := by omega
            rw [beh_lt, hv2, ea2, eb2] at hL2
            clear ea2 eb2
            have c2 := swk_cell2 Sw5.out ht htg hc2
            have mL := m_less (t := t) c2
            have mS := m_swap (t := t) c2
            have mN := m_len (t := t) c2
            have HL2 := hid hL2
            clear hL2
            go_wp2_with fail
            refine HL2.out.mono ?_
            rintro e w6 ⟨rfl, hl2⟩
            have Sw6 := hid (swk_laid Sw5.out hl2)
            clear hl2 HL2 Sw5 c2 mL mS mN
            have hW := Swap.out dk w6 Sw6.out hs (i) (2 * i + 1) (by omega) (by omega)
            have ea : (((i : Nat)) : Int) = (i : Int) := by omega
            have eb : (((2 * i + 1 : Nat)) : Int) = 2 * (i : Int) + 1 := by omega
            rw [ea, eb] at hW
            clear ea eb
            have c2 := swk_cell2 Sw6.out ht htg hc2
            have mL := m_less (t := t) c2
            have mS := m_swap (t := t) c2
            have mN := m_len (t := t) c2
            have HW := hid hW
            clear hW
            go_wp2_with fail
            refine HW.out.mono ?_
            rintro e w9 ⟨rfl, hT⟩
            have S9 := hid (swk_trans Sw6.out hg (by rw [size_swp]) hT)
            have hs9 : (swp dk (i) (2 * i + 1)).size = n := by rw [size_swp]; exact hs
            have hE9 : Hid (siftDown (ltOf cfP) n 0 (2 * i + 1) (swp dk (i) (2 * i + 1)) = siftDown (ltOf cfP) n 0 i0 d) := hid (by rw [← hE.out]; exact (show siftDown (ltOf cfP) n 0 i dk = siftDown (ltOf cfP) n 0 (2 * i + 1) (swp dk (i) (2 * i + 1)) from by simpa only [Nat.zero_add] using sd_left_go (lt := ltOf cfP) (hi := n) (F := 0) (root := i) dk (by simpa only [Nat.zero_add] using hlt1) (by simpa only [Nat.zero_add] using (fun (_ : 2 * i + 2 < n) => hv1)) (by simpa only [Nat.zero_add] using hv2)).symm)
            clear hT HW c2 mL mS mN Sw6 hE
            go_wp2_with fail
            go_roundg (n - (2 * i + 1))
            case measure => omega
            case rel => exact ⟨2 * i + 1, swp dk (i) (2 * i + 1), by go_num, rfl, hs9, by omega, S9, hE9⟩
          | false =>
            have hL2 := Less.out dk w5 Sw5.out hs (2 * i + 1) (i) (by omega) (by omega)
            have ea2 : (((2 * i + 1 : Nat)) : Int) = 2 * (i : Int) + 1 := by omega
            have eb2 : (((i : Nat)) : Int) = (i : Int) := by omega
            rw [beh_lt, hv2, ea2, eb2] at hL2
            clear ea2 eb2
            have c2 := swk_cell2 Sw5.out ht htg hc2
            have mL := m_less (t := t) c2
            have mS := m_swap (t := t) c2
            have mN := m_len (t := t) c2
            have HL2 := hid hL2
            clear hL2
            go_wp2_with fail
            refine HL2.out.mono ?_
            rintro e w6 ⟨rfl, hl2⟩
            have Sw6 := hid (swk_laid Sw5.out hl2)
            clear hl2 HL2 Sw5 c2 mL mS mN
            have Hend := hid (show siftDown (ltOf cfP) n 0 i dk = dk from by simpa only [Nat.zero_add] using sd_left_stop (lt := ltOf cfP) (hi := n) (F := 0) (root := i) dk (by simpa only [Nat.zero_add] using hlt1) (by simpa only [Nat.zero_add] using (fun (_ : 2 * i + 2 < n) => hv1)) (by simpa only [Nat.zero_add] using hv2))
            go_wp2_with fail
            go_ret
            exact ⟨_, rfl, by rw [← hE.out, Hend.out]; exact Sw6.out⟩
      · have d3 : decide (2 * (i : Int) + 1 + 1 < n) = false := decide_eq_false (by omega)
        have hno : 2 * i + 2 < n → ltOf cfP dk[2 * i + 1]! dk[2 * i + 2]! = false := fun h => absurd h h2
        have Hno := hid hno
        clear hno
        cases hv2 : ltOf cfP dk[i]! dk[2 * i + 1]! with
        | true =>
          have hL2 := Less.out dk wr S.out hs (2 * i + 1) (i) (by omega) (by omega)
          have ea2 : (((2 * i + 1 : Nat)) : Int) = 2 * (i : Int) + 1 := by omega
          have eb2 : (((i : Nat)) : Int) = (i : Int) := by omega
          rw [beh_lt, hv2, ea2, eb2] at hL2
          clear ea2 eb2
          have c2 := swk_cell2 S.out ht htg hc2
          have mL := m_less (t := t) c2
          have mS := m_swap (t := t) c2
          have mN := m_len (t := t) c2
          have HL2 := hid hL2
          clear hL2
          go_wp2_with fail
          refine HL2.out.mono ?_
          rintro e w6 ⟨rfl, hl2⟩
          have Sw6 := hid (swk_laid S.out hl2)
          clear hl2 HL2 S c2 mL mS mN
          have hW := Swap.out dk w6 Sw6.out hs (i) (2 * i + 1) (by omega) (by omega)
          have ea : (((i : Nat)) : Int) = (i : Int) := by omega
          have eb : (((2 * i + 1 : Nat)) : Int) = 2 * (i : Int) + 1 := by omega
          rw [ea, eb] at hW
          clear ea eb
          have c2 := swk_cell2 Sw6.out ht htg hc2
          have mL := m_less (t := t) c2
          have mS := m_swap (t := t) c2
          have mN := m_len (t := t) c2
          have HW := hid hW
          clear hW
          go_wp2_with fail
          refine HW.out.mono ?_
          rintro e w9 ⟨rfl, hT⟩
          have S9 := hid (swk_trans Sw6.out hg (by rw [size_swp]) hT)
          have hs9 : (swp dk (i) (2 * i + 1)).size = n := by rw [size_swp]; exact hs
          have hE9 : Hid (siftDown (ltOf cfP) n 0 (2 * i + 1) (swp dk (i) (2 * i + 1)) = siftDown (ltOf cfP) n 0 i0 d) := hid (by rw [← hE.out]; exact (show siftDown (ltOf cfP) n 0 i dk = siftDown (ltOf cfP) n 0 (2 * i + 1) (swp dk (i) (2 * i + 1)) from by simpa only [Nat.zero_add] using sd_left_go (lt := ltOf cfP) (hi := n) (F := 0) (root := i) dk (by simpa only [Nat.zero_add] using hlt1) (by simpa only [Nat.zero_add] using Hno.out) (by simpa only [Nat.zero_add] using hv2)).symm)
          clear hT HW c2 mL mS mN Sw6 hE
          go_wp2_with fail
          go_roundg (n - (2 * i + 1))
          case measure => omega
          case rel => exact ⟨2 * i + 1, swp dk (i) (2 * i + 1), by go_num, rfl, hs9, by omega, S9, hE9⟩
        | false =>
          have hL2 := Less.out dk wr S.out hs (2 * i + 1) (i) (by omega) (by omega)
          have ea2 : (((2 * i + 1 : Nat)) : Int) = 2 * (i : Int) + 1 := by omega
          have eb2 : (((i : Nat)) : Int) = (i : Int) := by omega
          rw [beh_lt, hv2, ea2, eb2] at hL2
          clear ea2 eb2
          have c2 := swk_cell2 S.out ht htg hc2
          have mL := m_less (t := t) c2
          have mS := m_swap (t := t) c2
          have mN := m_len (t := t) c2
          have HL2 := hid hL2
          clear hL2
          go_wp2_with fail
          refine HL2.out.mono ?_
          rintro e w6 ⟨rfl, hl2⟩
          have Sw6 := hid (swk_laid S.out hl2)
          clear hl2 HL2 S c2 mL mS mN
          have Hend := hid (show siftDown (ltOf cfP) n 0 i dk = dk from by simpa only [Nat.zero_add] using sd_left_stop (lt := ltOf cfP) (hi := n) (F := 0) (root := i) dk (by simpa only [Nat.zero_add] using hlt1) (by simpa only [Nat.zero_add] using Hno.out) (by simpa only [Nat.zero_add] using hv2))
          go_wp2_with fail
          go_ret
          exact ⟨_, rfl, by rw [← hE.out, Hend.out]; exact Sw6.out⟩

end Go.Proofs.Ytgimpkbknaopcaa
