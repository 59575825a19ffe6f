/- The document's First. No statement is proved here. -/
import Derived.Test.YtgimpkbknaopcaaVZ
set_option linter.unusedVariables false
set_option linter.unusedSimpArgs false
namespace Go.Proofs.Ytgimpkbknaopcaa
open Go.RowKit

def FirstPost (w : World) (l : List V) (n : Nat) (e : Ending) (w' : World) : Prop := ∃ a cap, e = .returned (.slice a ((sortV l).take n).length cap) ∧ VIn w' a ((sortV l).take n) ∧ Below w.heap.size w w'
set_option maxHeartbeats 2000000 in
set_option maxRecDepth 100000 in
theorem first_ref (l : List V) (a : Option Addr) (cap n : Nat) (w : World) (hcap : l.length ≤ cap) (hbig : l.length ≤ 1172812402960) (ha : VIn w a l) (hnil : a = none → l = []) (hn : n ≤ 10000) :
    Calls Try.prog 15 #[.slice a l.length cap, .int .i64 n] w (FirstPost w l n) := by
  have hs := sort_ref l.length l a cap w (Nat.le_refl _) hcap hbig ha hnil
  have HS := hid hs
  clear hs ha hnil
  generalize l.length = m at *
  go_enter Try.func15, Try.ntmps15
  go_wp2_with fail
  refine HS.out.mono ?_
  rintro e w1 ⟨v, rfl, ho, _, hb⟩
  have HB := hid hb
  have hof : ∃ a' c', v = .slice a' (sortV l).length c' ∧ VIn w1 a' (sortV l) ∧ (sortV l).length ≤ c' ∧ ((sortV l) ≠ [] → a' ≠ none) := by
    rcases ho.2 with ⟨rfl, h0⟩ | ⟨g, c, cur, rfl, k0, hg, hle, rest⟩
    · have hz := List.eq_nil_of_length_eq_zero h0
      exact ⟨none, 0, by rw [h0], fun h => absurd hz h, by omega, fun h => absurd hz h⟩
    · obtain ⟨a', c', e, hv⟩ := own_vin ho
      cases e
      exact ⟨_, _, rfl, hv, hle, fun _ h => by cases h⟩
  obtain ⟨a', c', rfl, hv, hle, hne⟩ := hof
  have HV := hid hv
  clear ho hb hv HS
  generalize hS : sortV l = S at *
  have HSl := hid hS
  clear hS
  by_cases hlt : n < S.length
  · have d1 : decide ((n : Int) < (S.length : Int)) = true := decide_eq_true (by omega)
    have d2 : decide (n < S.length) = true := decide_eq_true hlt
    have hnc : n ≤ c' := by omega
    have hnc2 : (n : Int) ≤ (c' : Int) := by omega
    have htl : (S.take n).length = n := by simp; omega
    obtain ⟨b, o, hab, _⟩ := HV.out (by intro h; rw [h] at hlt; simp at hlt)
    subst hab
    have Htl := hid htl
    clear htl hne
    go_wp2_with fail
    go_ret
    refine ⟨some ⟨b, o, none⟩, c', ?_, by rw [HSl.out]; exact HV.out.take n, HB.out⟩
    rw [HSl.out, Htl.out]
    rfl
  · have d1 : decide ((n : Int) < (S.length : Int)) = false := decide_eq_false (by omega)
    have d2 : decide (n < S.length) = false := decide_eq_false hlt
    have htk : S.take n = S := List.take_of_length_le (by omega)
    have Htk := hid htk
    clear htk hne
    go_wp2_with fail
    go_ret
    refine ⟨a', c', ?_, by rw [HSl.out, Htk.out]; exact HV.out, HB.out⟩
    rw [HSl.out, Htk.out]
    rfl
end Go.Proofs.Ytgimpkbknaopcaa
