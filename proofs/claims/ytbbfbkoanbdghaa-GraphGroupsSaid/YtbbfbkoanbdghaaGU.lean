/- The laws' has and same. No statement is proved here. -/
import Derived.Test.YtbbfbkoanbdghaaGT
set_option linter.unusedVariables false
set_option linter.unusedSimpArgs false
namespace Go.Proofs.Ytbbfbkoanbdghaa
open Go.RowKit

theorem shr_next (mask : Int) (i : Nat) : mask / 2 ^ i / 2 = mask / 2 ^ (i + 1) := by
  rw [Int.ediv_ediv_of_nonneg (Int.le_of_lt (Int.pow_pos (by decide))), Int.pow_succ]
set_option maxHeartbeats 4000000 in
set_option maxRecDepth 100000 in
theorem refin_any (lab mask : Int) (w : World) (h1 : 1 ≤ lab) (h8 : lab ≤ 8) : Calls Try.prog 21 #[.int .i64 lab, .int .i64 mask] w fun e w' => e = .returned (.bool (inM lab mask)) ∧ w' = w := by
  obtain ⟨k, rfl⟩ : ∃ k : Nat, lab = (k : Int) + 1 := ⟨(lab - 1).toNat, by omega⟩
  have hk : k ≤ 7 := by omega
  clear h1 h8
  have hfin : inM ((k : Int) + 1) mask = (bits BinOp.and IntKind.i64 (mask / 2 ^ k) 1 == 1) := by
    unfold inM
    rw [show ((k : Int) + 1).toNat - 1 = k by omega]
  rw [hfin]
  have HF := hid hfin
  clear hfin
  go_enter Try.func21, Try.ntmps21
  go_wp2_with fail
  go_loopg [5, 1] k (fun gh s5 s1 wr => ∃ i : Nat, i ≤ k ∧ gh = k - i ∧ s5 = .int .i64 ((i : Int) + 1) ∧ s1 = .int .i64 (mask / 2 ^ i) ∧ wr = w)
  case atStart => exact ⟨0, Nat.zero_le _, by omega, rfl, by simp, rfl⟩
  case round =>
    obtain ⟨i, hi, rfl, rfl, rfl, rfl⟩ := hrel
    by_cases hlt : i < k
    · have hiI : (i : Int) + 1 < (k : Int) + 1 := by omega
      have hi63 : (i : Int) + 1 + 1 ≤ 9223372036854775807 := by omega
      go_wp2_with fail
      go_roundg (k - (i + 1))
      case measure => omega
      case rel => exact ⟨i + 1, by omega, rfl, by go_num, by rw [← shr_next], rfl⟩
    · have hpe : k = i := by omega
      subst hpe
      go_wp2_with fail
      go_ret
      exact ⟨rfl, rfl⟩
def Hit (x y mask : Int) (e : E) : Prop := e.frm = x ∧ e.to = y ∧ inM e.lab mask = true
def HasPost (w : World) (l : List E) (x y mask : Int) (e : Ending) (w' : World) : Prop := ∃ r : Bool, e = .returned (.bool r) ∧ (r = true ↔ ∃ e ∈ l, Hit x y mask e) ∧ Below w.heap.size w w'
set_option maxHeartbeats 8000000 in
set_option maxRecDepth 100000 in
theorem has_any {w : World} {a : Option Addr} {l : List E} (hin : EIn w a l) (hok : ∀ e ∈ l, 1 ≤ e.lab ∧ e.lab ≤ 8) (hlen : l.length ≤ 1000000) (cap : Nat) (x y mask : Int) :
    Calls Try.prog 18 #[.slice a l.length cap, .int .i64 x, .int .i64 y, .int .i64 mask] w (HasPost w l x y mask) := by
  have HIN := hid hin
  have HOK := hid hok
  clear hin hok
  obtain ⟨len, hl⟩ : ∃ len, len = l.length := ⟨_, rfl⟩
  rw [← hl] at hlen ⊢
  have HL := hid hl
  clear hl
  go_enter Try.func18, Try.ntmps18
  go_wp2_with fail
  go_loopg [13] len (fun gh s13 wr => ∃ p : Nat, p ≤ len ∧ gh = len - p ∧ s13 = .int .i64 p ∧ Hid (Below w.heap.size w wr) ∧ Hid (∀ e ∈ l.take p, ¬ Hit x y mask e))
  case atStart => exact ⟨0, Nat.zero_le _, by omega, rfl, hid (Below.refl _ _), hid fun e h => by simp at h⟩
  case round =>
    obtain ⟨p, hp, rfl, rfl, HB, HN⟩ := hrel
    by_cases hpl : p < len
    · have hpl' : p < l.length := by have := HL.out; omega
      have hne : l ≠ [] := by
        intro h
        rw [h] at hpl'
        simp at hpl'
      obtain ⟨b, rfl, hbl, hc⟩ := (HIN.out.below HB.out) hne
      have hx := hc p hpl'
      have hmem : l[p] ∈ l := List.getElem_mem _
      have hlab := HOK.out _ hmem
      have HNX := hid (fun (hn : ¬ Hit x y mask l[p]) => (show ∀ e ∈ l.take (p + 1), ¬ Hit x y mask e by
        intro e he
        rw [List.take_succ_eq_append_getElem hpl'] at he
        rcases List.mem_append.1 he with he | he
        · exact HN.out e he
        · have : e = l[p] := by simpa using he
          rw [this]; exact hn))
      have HMEM := hid hmem
      clear hc hne hmem
      generalize l[p] = x9 at *
      obtain ⟨ef, et, el⟩ := x9
      obtain ⟨k5, k6⟩ := hlab
      simp only at k5 k6
      have x0 : wr.cell? ⟨b, p * 3, none⟩ = some (.int .i64 ef) := hx 0 (by omega)
      have x1 : wr.cell? ⟨b, p * 3 + 1, none⟩ = some (.int .i64 et) := hx 1 (by omega)
      have x2 : wr.cell? ⟨b, p * 3 + 2, none⟩ = some (.int .i64 el) := hx 2 (by omega)
      have hpI : (p : Int) < (len : Int) := by omega
      have hp63 : (p : Int) + 1 ≤ 9223372036854775807 := by omega
      have hal := (Below.refl _ wr).alloc (Nat.le_refl _) (.cells #[.int .i64 ef, .int .i64 et, .int .i64 el] 29)
      have X4 : Hid ((wr.alloc (.cells #[.int .i64 ef, .int .i64 et, .int .i64 el] 29)).heap[wr.heap.size]? = some (.cells #[.int .i64 ef, .int .i64 et, .int .i64 el] 29 (0, 0))) := hid (heap_alloc_new wr _)
      have HB4 := hid (HB.out.trans (hal.mono HB.out.size))
      clear hx hal HB
      go_upto_region 4 with fail
      clear x0 x1 x2
      obtain ⟨w4, hw4⟩ : ∃ w4, wr.alloc (.cells #[.int .i64 ef, .int .i64 et, .int .i64 el] 29) = w4 := ⟨_, rfl⟩
      obtain ⟨bx, hbx2⟩ : ∃ bx, bx = wr.heap.size := ⟨_, rfl⟩
      rw [hw4] at X4 HB4 ⊢
      rw [← hbx2] at X4 ⊢
      clear hw4 hbx2
      have x0 : w4.cell? ⟨bx, 0, none⟩ = some (.int .i64 ef) := (blk_cell X4.out 0).trans rfl
      have x1 : w4.cell? ⟨bx, 1, none⟩ = some (.int .i64 et) := (blk_cell X4.out 1).trans rfl
      have x2 : w4.cell? ⟨bx, 2, none⟩ = some (.int .i64 el) := (blk_cell X4.out 2).trans rfl
      by_cases h1 : ef = x
      · subst h1
        by_cases h2 : et = y
        · subst h2
          have hinn := refin_any el mask w4 k5 k6
          cases hin : inM el mask with
          | false =>
            simp only [hin] at hinn
            have HI := hid hinn
            have HNN := hid (HNX.out fun hh => by have := hh.2.2; rw [hin] at this; cases this)
            clear hinn
            go_wp2_with (go_at_call 21; refine HI.out.mono ?_; rintro e w5 ⟨rfl, rfl⟩)
            go_roundg (len - (p + 1))
            case measure => omega
            case rel => exact ⟨p + 1, by omega, rfl, by go_num, HB4, HNN⟩
          | true =>
            simp only [hin] at hinn
            have HI := hid hinn
            have HH := hid (show Hit ef et mask ⟨ef, et, el⟩ from ⟨rfl, rfl, hin⟩)
            clear hinn
            go_wp2_with (go_at_call 21; refine HI.out.mono ?_; rintro e w5 ⟨rfl, rfl⟩)
            go_ret
            exact ⟨true, rfl, ⟨fun _ => ⟨_, HMEM.out, HH.out⟩, fun _ => rfl⟩, HB4.out⟩
        · have HNN := hid (HNX.out fun hh => h2 hh.2.1)
          have hb1 : (et == y) = false := beq_eq_false_iff_ne.mpr h2
          have hb2 : decide (et = y) = false := decide_eq_false h2
          clear h2
          go_wp2_with fail
          go_roundg (len - (p + 1))
          case measure => omega
          case rel => exact ⟨p + 1, by omega, rfl, by go_num, HB4, HNN⟩
      · have HNN := hid (HNX.out fun hh => h1 hh.1)
        have hb1 : (ef == x) = false := beq_eq_false_iff_ne.mpr h1
        have hb2 : decide (ef = x) = false := decide_eq_false h1
        clear h1
        go_wp2_with fail
        go_roundg (len - (p + 1))
        case measure => omega
        case rel => exact ⟨p + 1, by omega, rfl, by go_num, HB4, HNN⟩
    · have hpe : len = p := by omega
      subst hpe
      go_wp2_with fail
      go_ret
      exact ⟨false, rfl, ⟨(fun h => by cases h), fun ⟨e, he, hh⟩ => absurd hh (HN.out e (by rw [HL.out, List.take_length]; exact he))⟩, HB.out⟩
/-- A slice of ints that can be read. -/
def IIn (w : World) (a : Option Addr) (l : List Int) : Prop := l ≠ [] → ∃ b o, a = some ⟨b, o, none⟩ ∧ b < w.heap.size ∧ ∀ i (h : i < l.length), w.cell? ⟨b, o + i, none⟩ = some (.int .i64 l[i])
theorem IIn.below {w w' : World} {a : Option Addr} {l : List Int} (h : IIn w a l) (hb : Below w.heap.size w w') : IIn w' a l := by
  intro hn
  obtain ⟨b, o, rfl, hl, hc⟩ := h hn
  exact ⟨b, o, rfl, Nat.lt_of_lt_of_le hl hb.size, fun i hi => (hb.cell (p := ⟨b, o + i, none⟩) hl).trans (hc i hi)⟩
set_option maxHeartbeats 8000000 in
set_option maxRecDepth 100000 in
theorem same_yes {w : World} {a a' : Option Addr} {l : List Int} (h : IIn w a l) (h' : IIn w a' l) (hlen : l.length ≤ 1000000) (cap cap' : Nat) :
    Calls Try.prog 19 #[.slice a l.length cap, .slice a' l.length cap'] w fun e w' => e = .returned (.bool true) ∧ w' = w := by
  have H := hid h
  have H' := hid h'
  clear h h'
  obtain ⟨len, hl⟩ : ∃ len, len = l.length := ⟨_, rfl⟩
  rw [← hl] at hlen ⊢
  have HL := hid hl
  clear hl
  go_enter Try.func19, Try.ntmps19
  go_wp2_with fail
  go_loopg [14] len (fun gh s14 wr => ∃ p : Nat, p ≤ len ∧ gh = len - p ∧ s14 = .int .i64 p ∧ wr = w)
  case atStart => exact ⟨0, Nat.zero_le _, by omega, rfl, rfl⟩
  case round =>
    obtain ⟨p, hp, rfl, rfl, rfl⟩ := hrel
    by_cases hpl : p < len
    · have hpl' : p < l.length := by have := HL.out; omega
      have hne : l ≠ [] := by
        intro h
        rw [h] at hpl'
        simp at hpl'
      obtain ⟨b, o, rfl, hbl, hc⟩ := H.out hne
      obtain ⟨b', o', rfl, hbl', hc'⟩ := H'.out hne
      have x0 := hc p hpl'
      have x1 := hc' p hpl'
      have hpI : (p : Int) < (len : Int) := by omega
      have hp63 : (p : Int) + 1 ≤ 9223372036854775807 := by omega
      clear hc hc' hne
      generalize l[p] = x9 at *
      go_wp2_with fail
      go_roundg (len - (p + 1))
      case measure => omega
      case rel => exact ⟨p + 1, by omega, rfl, by go_num, rfl⟩
    · have hpe : len = p := by omega
      subst hpe
      go_wp2_with fail
      go_ret
      exact ⟨rfl, rfl⟩
end Go.Proofs.Ytbbfbkoanbdghaa
