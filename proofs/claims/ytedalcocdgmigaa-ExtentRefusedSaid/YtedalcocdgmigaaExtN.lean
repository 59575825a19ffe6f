/- What the laws on the space lean on: the anchor, and the space's methods in terms of the free blocks. No statement is proved here. -/
import Derived.Test.YtedalcocdgmigaaExtK
set_option linter.unusedVariables false
set_option linter.unusedSimpArgs false
namespace Go.Proofs.Ytedalcocdgmigaa
open Go.RowKit

/-- The space's blocks are all new. -/
def SpNew (B : Nat) (p : Nat) (o : Option Nat) : Prop := B ≤ p ∧ ∀ k, o = some k → B ≤ k
theorem SpNew.step {B p : Nat} {o o' : Option Nat} {w w' : World} (h : SpNew B p o) (s : SpStep w w' p o o') (hB : B ≤ w.heap.size) : SpNew B p o' ∧ Below B w w' := by
  refine ⟨⟨h.1, fun k hk => ?_⟩, s.upd.below hB ?_⟩
  · rcases s.new k hk with h1 | h1
    · exact h.2 k h1
    · omega
  · rintro k (rfl | hk)
    · exact h.1
    · exact h.2 k hk

set_option maxHeartbeats 1000000 in
theorem anchor_any (w : World) : Calls Try.prog 12 #[] w fun e w' => e = .returned (.bool true) ∧ Below w.heap.size w w' := by
  go_enter Try.func12, Try.ntmps12
  go_wp2_with fail
  refine (new_good 3 _ (by omega) (by omega)).mono ?_
  rintro e w1 ⟨p, o, rfl, hsp, hp, ho, hb1⟩
  have Hsp := hid hsp
  have Ho := hid ho
  clear hsp ho
  go_wp2_with fail
  refine (alloc_good p o 3 2 (newHoles 3) w1 Hsp.out (by omega) (by omega)).mono ?_
  rintro e w2 (⟨A, h, B, hd, hA, hc, rfl, o2, hsp2, hst2⟩ | ⟨hno, _⟩)
  · have hABh : A = [] ∧ h = (0, 3) ∧ B = [] := by
      have hd' : [((0 : Int), (3 : Int))] = A ++ h :: B := hd
      cases A with
      | nil => simp at hd'; exact ⟨rfl, hd'.1.symm, hd'.2⟩
      | cons x r => simp at hd'
    obtain ⟨rfl, rfl, rfl⟩ := hABh
    obtain ⟨hn2, hb2⟩ := SpNew.step (B := w.heap.size) ⟨hp, Ho.out⟩ hst2 hb1.size
    have hb : Below w.heap.size w w2 := hb1.trans hb2
    have Hsp2 : Hid (Sp w2 p o2 3 [(2, 1)]) := hid hsp2
    unfold pairV
    clear hd hA hc hsp2 hst2 hn2 hb1 hb2
    have hl : ∀ (W : World), Below w2.heap.size w2 W → Calls Try.prog 19 #[.pointer (some ⟨p, 0, none⟩)] W fun e w' => e = .returned (.int .i64 1) ∧ Below W.heap.size W w' := fun W hW =>
      left_any p o2 3 [(2, 1)] W (Hsp2.out.below hW)
    have Hl := hid hl
    have hx : Below w2.heap.size w2 (w2.alloc (.cells #[.int .i64 0, .int .i64 2] 31)) := (Below.refl _ _).alloc (Nat.le_refl _) _
    clear hl
    go_wp2_with fail
    refine (Hl.out _ hx).mono ?_
    rintro e w3 ⟨rfl, hb3⟩
    have hb' : Below w.heap.size w w3 := (hb.trans (hx.mono hb.size)).trans (hb3.mono (by have := hb.size; simp; omega))
    go_wp2_with fail
    go_ret
    exact ⟨rfl, hb'⟩
  · exact absurd (hno (0, 3) (by simp [newHoles])) (by simp)
end Go.Proofs.Ytedalcocdgmigaa
