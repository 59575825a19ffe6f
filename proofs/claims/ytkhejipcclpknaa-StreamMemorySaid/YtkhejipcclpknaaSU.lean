/- The law's 'same': are two rows of bytes the same? No statement is proved here. -/
import Derived.Test.YtkhejipcclpknaaSI
set_option linter.unusedVariables false
set_option linter.unusedSimpArgs false
namespace Go.Proofs.Ytkhejipcclpknaa
open Go.RowKit

set_option maxHeartbeats 2000000 in
set_option maxRecDepth 100000 in
theorem same_any {w : World} {a a' : Option Addr} {l l' : List Int} (h : BytesIn w a l) (h' : BytesIn w a' l') (hlen : l.length ≤ 100000000) (hlen' : l'.length ≤ 100000000) (cap cap' : Nat) :
    Calls Try.prog 15 #[.slice a l.length cap, .slice a' l'.length cap'] w fun e w' => e = .returned (.bool (decide (l = l'))) ∧ w' = w := by
  have H := hid h
  have H' := hid h'
  clear h h'
  obtain ⟨len, hl⟩ : ∃ len, len = l.length := ⟨_, rfl⟩
  obtain ⟨len', hl'⟩ : ∃ len, len = l'.length := ⟨_, rfl⟩
  rw [← hl] at hlen ⊢
  rw [← hl'] at hlen' ⊢
  have HL := hid hl
  have HL' := hid hl'
  clear hl hl'
  by_cases hne0 : len = len'
  · subst hne0
    go_enter Try.func15, Try.ntmps15
    go_wp2_with fail
    go_loopg [14] len (fun gh s14 wr => ∃ p : Nat, p ≤ len ∧ gh = len - p ∧ s14 = .int .i64 p ∧ wr = w ∧ Hid (l.take p = l'.take p))
    case atStart => exact ⟨0, Nat.zero_le _, by omega, rfl, rfl, hid (by simp)⟩
    case round =>
      obtain ⟨p, hp, rfl, rfl, rfl, HT⟩ := hrel
      by_cases hpl : p < len
      · have hpl1 : p < l.length := by have := HL.out; omega
        have hpl2 : p < l'.length := by have := HL'.out; omega
        obtain ⟨b, o, rfl, hbl, hc⟩ := H.out (fun h => by rw [h] at hpl1; simp at hpl1)
        obtain ⟨b', o', rfl, hbl', hc'⟩ := H'.out (fun h => by rw [h] at hpl2; simp at hpl2)
        have x0 := hc p hpl1
        have x1 := hc' p hpl2
        have hpI : (p : Int) < (len : Int) := by omega
        have hp63 : (p : Int) + 1 ≤ 9223372036854775807 := by omega
        have HY := hid (fun (e : l[p] = l'[p]) => (show l.take (p + 1) = l'.take (p + 1) by rw [List.take_succ_eq_append_getElem hpl1, List.take_succ_eq_append_getElem hpl2, HT.out, e]))
        have HN := hid (fun (e : ¬ l[p] = l'[p]) => (show ¬ l = l' from fun h => e (by subst h; rfl)))
        clear hc hc'
        generalize l[p] = x at *
        generalize l'[p] = y at *
        by_cases hxy : x = y
        · have HT2 := hid (HY.out hxy)
          subst hxy
          clear HN
          go_wp2_with fail
          go_roundg (len - (p + 1))
          case measure => omega
          case rel => exact ⟨p + 1, by omega, rfl, by go_num, rfl, HT2⟩
        · have HD := hid (decide_eq_false (HN.out hxy))
          have b1 : (x == y) = false := beq_eq_false_iff_ne.mpr hxy
          clear HY HN hp63
          go_wp2_with fail
          go_ret
          exact ⟨by rw [HD.out]; rfl, rfl⟩
      · have hpe : len = p := by omega
        have HD := hid (decide_eq_true (show l = l' by
          have h1 := HT.out
          rw [List.take_of_length_le (by have := HL.out; omega), List.take_of_length_le (by have := HL'.out; omega)] at h1
          exact h1))
        subst hpe
        go_wp2_with fail
        go_ret
        exact ⟨by rw [HD.out]; rfl, rfl⟩
  · have HD := hid (decide_eq_false (show ¬ l = l' from fun h => hne0 (by rw [HL.out, HL'.out, h])))
    have hnI : ¬ (len : Int) = (len' : Int) := by omega
    go_enter Try.func15, Try.ntmps15
    go_wp2_with fail
    go_ret
    exact ⟨by rw [HD.out]; rfl, rfl⟩
end Go.Proofs.Ytkhejipcclpknaa
