/- The library's heap over puts: up, Fix, Push. No statement is proved here. -/
import Derived.Test.YtgimpkbknaopcaaVH
set_option linter.unusedVariables false
set_option linter.unusedSimpArgs false
namespace Go.Proofs.Ytgimpkbknaopcaa
open Go.RowKit Go.Shelf Go.Lib
open Go.Sort hiding Below
def UpPost (w : World) (g : Nat) (d : Array Pt) (j : Nat) (e : Ending) (w' : World) : Prop := e = .returned (.tuple #[]) ∧ SWK encP 13 w g 0 (upA d j) w'
set_option maxHeartbeats 4000000 in
set_option maxRecDepth 1000000 in
theorem up_any (t g cap j0 n : Nat) (d : Array Pt) (w : World) (hn : d.size = n) (hj0 : j0 = 0 ∨ j0 < n) (ht : t < w.heap.size) (hg : g < w.heap.size) (htg : t ≠ g) (hsz : n < 2305843009213693952)
    (hc2 : w.cell? ⟨t, 2, none⟩ = some (.slice (some ⟨g, 0, none⟩) n cap)) (hH : HoldsK encP 13 w g 0 d) :
    Calls Try.prog 33 #[(.iface 57 (.pointer (some ⟨t, 2, none⟩))), .int .i64 j0] w (UpPost w g d j0) := by
  have S0 : Hid (SWK encP 13 w g 0 d w) := hid (SWK.start hH)
  have less := fun (dk : Array Pt) (wr : World) (S : SWK encP 13 w g 0 dk wr) (hs : dk.size = n) (i j : Nat) (hi : i < n) (hj : j < n) => by
    have h := less_any g cap dk i j wr (S.holds hg hH (hs.trans hn.symm)) (S.lt hg) (by omega) (by omega) (by omega)
    rw [hs] at h
    exact h
  have swap := fun (dk : Array Pt) (wr : World) (S : SWK encP 13 w g 0 dk wr) (hs : dk.size = n) (i j : Nat) (hi : i < n) (hj : j < n) => by
    have h := swap_any g cap dk i j wr (S.holds hg hH (hs.trans hn.symm)) (S.lt hg) (by omega) (by omega) (by omega)
    rw [hs] at h
    exact h
  have Less := hid less
  have Swap := hid swap
  clear hH less swap
  go_enter Try.func33, Try.ntmps33
  go_wp2_with fail
  go_loopg [1] j0 (fun gh s1 wr => ∃ (j : Nat) (dk : Array Pt), s1 = .int .i64 j ∧ gh = j ∧ dk.size = n ∧ (j = 0 ∨ j < n) ∧ Hid (SWK encP 13 w g 0 dk wr) ∧ Hid (upA dk j = upA d j0))
  case atStart => exact ⟨j0, d, rfl, rfl, hn, hj0, S0, hid rfl⟩
  case round =>
    clear S0
    obtain ⟨j, dk, rfl, hgj, hs, hjn, S, hE⟩ := hrel
    have hgj' := hgj.symm
    subst hgj'
    clear hgj
    by_cases hz : j = 0
    · subst hz
      have hend := hid (upA_zero dk)
      go_wp2_with fail
      exact bodyPost_end (v := .tuple #[]) (by simp [results, Try.results33, go_sem]) rfl ⟨rfl, by rw [← hE.out, hend.out]; exact S.out⟩
    · obtain ⟨i, hi⟩ : ∃ i, i = (j - 1) / 2 := ⟨_, rfl⟩
      have hij : i < j := by omega
      have hdiv : ((j : Int) - 1).tdiv 2 = (i : Int) := by
        rw [show (j : Int) - 1 = ((j - 1 : Nat) : Int) by omega]
        have : (((j - 1 : Nat) : Int)).tdiv ((2 : Nat) : Int) = (((j - 1) / 2 : Nat) : Int) := by rw [Int.ofNat_tdiv]
        rw [hi]; exact this
      have hne : ((i : Int) == (j : Int)) = false := beq_eq_false_iff_ne.mpr (by omega)
      have hne2 : (i == j) = false := beq_eq_false_iff_ne.mpr (by omega)
      have hjn' : j < n := by omega
      have Hi := hid hi
      clear hi
      cases hv1 : ltOf cfP dk[i]! dk[j]! with
      | true =>
        have hL1 := Less.out dk wr S.out hs (j) (i) (by omega) (by omega)
        have ea1 : (((j : Nat)) : Int) = (j : Int) := by omega
        have eb1 : (((i : Nat)) : Int) = (i : Int) := by omega
        rw [beh_lt, hv1, ea1, eb1] at hL1
        clear ea1 eb1
        have c2 := swk_cell2 S.out ht htg hc2
        have mL := m_less (t := t) c2
        have mS := m_swap (t := t) c2
        have mN := m_len (t := t) c2
        have HL1 := hid hL1
        clear hL1
        go_wp2_with fail
        refine HL1.out.mono ?_
        rintro e w5 ⟨rfl, hl1⟩
        have Sw5 := hid (swk_laid S.out hl1)
        clear hl1 HL1 S c2 mL mS mN
        have hW := Swap.out dk w5 Sw5.out hs (i) (j) (by omega) (by omega)
        have ea : (((i : Nat)) : Int) = (i : Int) := by omega
        have eb : (((j : Nat)) : Int) = (j : Int) := by omega
        rw [ea, eb] at hW
        clear ea eb
        have c2 := swk_cell2 Sw5.out ht htg hc2
        have mL := m_less (t := t) c2
        have mS := m_swap (t := t) c2
        have mN := m_len (t := t) c2
        have HW := hid hW
        clear hW
        go_wp2_with fail
        refine HW.out.mono ?_
        rintro e w9 ⟨rfl, hT⟩
        have S9 := hid (swk_trans Sw5.out hg (by rw [size_swp]) hT)
        have hs9 : (swp dk (i) (j)).size = n := by rw [size_swp]; exact hs
        have hE9 : Hid (upA (swp dk (i) (j)) i = upA d j0) := hid (by rw [← hE.out, upA_go dk j hz (by rw [← Hi.out]; exact hv1), ← Hi.out])
        clear hT HW c2 mL mS mN Sw5 hE
        go_wp2_with fail
        go_roundg i
        case measure => omega
        case rel => exact ⟨i, swp dk (i) (j), by go_num, rfl, hs9, by omega, S9, hE9⟩
      | false =>
        have hL1 := Less.out dk wr S.out hs (j) (i) (by omega) (by omega)
        have ea1 : (((j : Nat)) : Int) = (j : Int) := by omega
        have eb1 : (((i : Nat)) : Int) = (i : Int) := by omega
        rw [beh_lt, hv1, ea1, eb1] at hL1
        clear ea1 eb1
        have c2 := swk_cell2 S.out ht htg hc2
        have mL := m_less (t := t) c2
        have mS := m_swap (t := t) c2
        have mN := m_len (t := t) c2
        have HL1 := hid hL1
        clear hL1
        go_wp2_with fail
        refine HL1.out.mono ?_
        rintro e w5 ⟨rfl, hl1⟩
        have Sw5 := hid (swk_laid S.out hl1)
        clear hl1 HL1 S c2 mL mS mN
        have hend := hid (upA_stop dk j (by rw [← Hi.out]; exact hv1))
        go_wp2_with fail
        exact bodyPost_end (v := .tuple #[]) (by simp [results, Try.results33, go_sem]) rfl ⟨rfl, by rw [← hE.out, hend.out]; exact Sw5.out⟩
end Go.Proofs.Ytgimpkbknaopcaa
