/- Small functions of stream: Create, need, and what a device counts and holds. No statement is proved here. -/
import Derived.Test.YtkhejipcclpknaaSI
set_option linter.unusedVariables false
set_option linter.unusedSimpArgs false
namespace Go.Proofs.Ytkhejipcclpknaa
open Go.RowKit

/-- A writer as data. -/
structure Wt where
  unit : Nat
  buf : List Int
  blocks : List Nat
  size : Int
  fault : Int
  closed : Bool
def cellsN (l : List Nat) : List Value := l.map fun (q : Nat) => Value.int .i64 (q : Int)
theorem cellsN_length (l : List Nat) : (cellsN l).length = l.length := by simp [cellsN]
/-- A writer in memory: its cell, its two rows; o, o' are the blocks of the rows. -/
structure WtM (w : World) (p g s : Nat) (o o' : Option Nat) (W : Wt) : Prop where
  ex : ∃ v v' : Value, v.ownBlock = o ∧ v'.ownBlock = o' ∧ w.heap[p]? = some (.cells #[.pointer (some ⟨g, 0, none⟩), .pointer (some ⟨s, 0, none⟩), .int .i64 W.unit, v, v', .int .i64 W.size, .int .i64 W.fault, .bool W.closed] 86 (0, 0)) ∧
    w.ownsRow 0 5 1 v W.buf.length (cellsB W.buf) ∧ w.ownsRow 0 3 1 v' W.blocks.length (cellsN W.blocks)
  ap : o ≠ some p ∧ o' ≠ some p ∧ ∀ k, o = some k → o' ≠ some k
def wS (p : Nat) (o o' : Option Nat) (k : Nat) : Prop := k = p ∨ o = some k ∨ o' = some k
theorem WtM.lt {w : World} {p g s : Nat} {o o' : Option Nat} {W : Wt} (h : WtM w p g s o o' W) : ∀ k, wS p o o' k → k < w.heap.size := by
  obtain ⟨v, v', rfl, rfl, h1, h2, h3⟩ := h.ex
  rintro k (rfl | hk | hk)
  · exact blk_lt h1
  · rcases h2.2 with ⟨rfl, _⟩ | ⟨b, cap, cur, rfl, _, hb, _⟩
    · cases hk
    · cases hk
      exact blk_lt hb
  · rcases h3.2 with ⟨rfl, _⟩ | ⟨b, cap, cur, rfl, _, hb, _⟩
    · cases hk
    · cases hk
      exact blk_lt hb
theorem WtM.kept {w w' : World} {p g s : Nat} {o o' : Option Nat} {W : Wt} (h : WtM w p g s o o' W) (hb : ∀ k, wS p o o' k → w'.heap[k]? = w.heap[k]?) : WtM w' p g s o o' W := by
  obtain ⟨v, v', e1, e2, h1, h2, h3⟩ := h.ex
  exact ⟨⟨v, v', e1, e2, (hb p (.inl rfl)).trans h1, own_same h2 fun k hk => hb k (.inr (.inl (by rw [← e1]; exact hk))), own_same h3 fun k hk => hb k (.inr (.inr (by rw [← e2]; exact hk)))⟩, h.ap⟩
theorem WtM.upd {S : Nat → Prop} {w w' : World} {p g s : Nat} {o o' : Option Nat} {W : Wt} (h : WtM w p g s o o' W) (u : Upd S w w') (hs : ∀ k, wS p o o' k → ¬ S k) : WtM w' p g s o o' W := h.kept fun k hk => u.block k (h.lt k hk) (hs k hk)
theorem WtM.below {w w' : World} {p g s : Nat} {o o' : Option Nat} {W : Wt} (h : WtM w p g s o o' W) (u : Below w.heap.size w w') : WtM w' p g s o o' W := h.kept fun k hk => u.block k (h.lt k hk)
theorem field_geom (a b : Int) (W : World) : (Instr.field 29 (.agg #[.int .i64 a, .int .i64 b]) 0).run Try.prog W = .ok (.int .i64 a) W := by kernel_rfl
def CreatePost (w : World) (d : Dl) (s U : Nat) (e : Ending) (w' : World) : Prop := ∃ p, e = .returned (.pointer (some ⟨p, 0, none⟩)) ∧ WtM w' p d.g s none none ⟨U, [], [], 0, 0, false⟩ ∧ w.heap.size ≤ p ∧ Below w.heap.size w w'
set_option maxHeartbeats 1000000 in
set_option maxRecDepth 100000 in
theorem create_any {w : World} {d : Dl} {D : Dv} (h : DvM w d D) (s : Nat) : Calls Try.prog 13 #[.pointer (some ⟨d.g, 0, none⟩), .pointer (some ⟨s, 0, none⟩)] w (CreatePost w d s D.unit) := by
  have HG := hid (geom_any h)
  have hfl := field_geom (D.unit : Int) (D.scr : Int)
  clear h
  go_enter Try.func13, Try.ntmps13
  go_wp2_with (go_at_call 32; refine HG.out.mono ?_; rintro e w1 ⟨rfl, hb1⟩; have HB1 := hid hb1; clear hb1)
  go_ret
  exact ⟨w1.heap.size, rfl, ⟨⟨_, _, rfl, rfl, heap_alloc_new w1 _, World.ownsRow_nil _ _ _ _, World.ownsRow_nil _ _ _ _⟩, by simp [Value.ownBlock], by simp [Value.ownBlock], by simp [Value.ownBlock]⟩, HB1.out.size, HB1.out.alloc HB1.out.size _⟩
set_option maxHeartbeats 1000000 in
set_option maxRecDepth 100000 in
theorem size_any {w : World} {p g s : Nat} {o o' : Option Nat} {W : Wt} (h : WtM w p g s o o' W) : Calls Try.prog 24 #[.pointer (some ⟨p, 0, none⟩)] w fun e w' => e = .returned (.int .i64 W.size) ∧ w' = w := by
  obtain ⟨v, v', rfl, rfl, h1, h2, h3⟩ := h.ex
  have c5 : w.cell? ⟨p, 5, none⟩ = some (.int .i64 W.size) := (blk_cell h1 5).trans rfl
  clear h h1 h2 h3
  go_enter Try.func24, Try.ntmps24
  go_wp2_with fail
  go_ret
  exact ⟨rfl, rfl⟩
def Wt.ready (W : Wt) : Int := if W.fault = 0 ∧ W.closed = true then 82 else W.fault
set_option maxHeartbeats 1000000 in
set_option maxRecDepth 100000 in
theorem ready_any {w : World} {p g s : Nat} {o o' : Option Nat} {W : Wt} (h : WtM w p g s o o' W) : Calls Try.prog 33 #[.pointer (some ⟨p, 0, none⟩)] w fun e w' => e = .returned (.int .i64 W.ready) ∧ w' = w := by
  obtain ⟨v, v', rfl, rfl, h1, h2, h3⟩ := h.ex
  have c6 : w.cell? ⟨p, 6, none⟩ = some (.int .i64 W.fault) := (blk_cell h1 6).trans rfl
  have c7 : w.cell? ⟨p, 7, none⟩ = some (.bool W.closed) := (blk_cell h1 7).trans rfl
  clear h h1 h2 h3
  by_cases hf : W.fault = 0
  · rw [hf] at c6
    cases hc : W.closed with
    | true =>
      rw [hc] at c7
      have HR := hid (show W.ready = 82 by unfold Wt.ready; rw [if_pos ⟨hf, hc⟩])
      clear hf hc
      go_enter Try.func33, Try.ntmps33
      go_wp2_with fail
      go_ret
      exact ⟨by rw [HR.out]; rfl, rfl⟩
    | false =>
      rw [hc] at c7
      have HR := hid (show W.ready = 0 by unfold Wt.ready; rw [if_neg (by simp [hc]), hf])
      clear hf hc
      go_enter Try.func33, Try.ntmps33
      go_wp2_with fail
      go_ret
      exact ⟨by rw [HR.out]; rfl, rfl⟩
  · have HR := hid (show W.ready = W.fault by unfold Wt.ready; rw [if_neg (fun h => hf h.1)])
    obtain ⟨f, hfe⟩ : ∃ f, f = W.fault := ⟨_, rfl⟩
    rw [← hfe] at c6 hf HR
    have b1 : (f == 0) = false := beq_eq_false_iff_ne.mpr hf
    have b2 : decide (f = 0) = false := decide_eq_false hf
    clear hf hfe
    go_enter Try.func33, Try.ntmps33
    go_wp2_with fail
    go_ret
    exact ⟨by rw [HR.out]; rfl, rfl⟩
end Go.Proofs.Ytkhejipcclpknaa
