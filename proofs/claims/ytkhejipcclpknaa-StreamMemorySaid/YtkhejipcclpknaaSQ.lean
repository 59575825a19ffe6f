/- A reader's blocks: of the input, of a file. No statement is proved here. -/
import Derived.Test.YtkhejipcclpknaaSP
set_option linter.unusedVariables false
set_option linter.unusedSimpArgs false
namespace Go.Proofs.Ytkhejipcclpknaa
open Go.RowKit

theorem RdPost.back {w w1 w' : World} {d : Dl} {r : Int × List Int × Dv} {e : Ending} (hb : Below w.heap.size w w1) (h : RdPost w1 d r e w') : RdPost w d r e w' := by
  obtain ⟨v, h1, h2, h3, h4, h5⟩ := h
  exact ⟨v, h1, h2, (Upd.of_new hb).trans h3 fun _ _ h => h, ⟨h4.1, h4.2.imp id fun ⟨g, cap, cur, k1, k2, k3⟩ => ⟨g, cap, cur, k1, Nat.le_trans hb.size k2, k3⟩⟩, h5⟩
set_option maxHeartbeats 1000000 in
set_option maxRecDepth 100000 in
theorem region_any {w : World} {d : Dl} {D : Dv} (h : DvM w d D) (b : Int) : Calls Try.prog 105 #[.agg #[.pointer (some ⟨d.g, 0, none⟩)], .int .i64 b] w (RdPost w d (D.readIn b)) := by
  have hal := (Below.refl _ w).alloc (Nat.le_refl _) (.cells #[.pointer (some ⟨d.g, 0, none⟩)] 99)
  have HR := hid (readIn_any (h.below hal) b)
  have HAL := hid hal
  clear h hal
  go_enter Try.func105, Try.ntmps105
  go_wp2_with (go_at_call 106; refine HR.out.mono ?_; rintro e w1 ⟨v, rfl, hr⟩; have HQ := hid hr; clear hr)
  go_ret2
  exact RdPost.back HAL.out ⟨v, rfl, HQ.out⟩
set_option maxHeartbeats 1000000 in
set_option maxRecDepth 100000 in
theorem chain_any {w : World} {d : Dl} {D : Dv} (h : DvM w d D) {vc : Value} {l : List Nat} (hc : w.ownsRow 0 3 1 vc l.length (cellsN l)) (i : Nat) (hi : i < l.length) (hlen : l.length ≤ 1000000) (hns : ∀ k, vc.ownBlock = some k → ¬ d.S k) :
    Calls Try.prog 102 #[.agg #[.pointer (some ⟨d.g, 0, none⟩), vc], .int .i64 (i : Int)] w (RdPost w d (D.readSc (l[i] : Nat))) := by
  rcases hc.2 with ⟨_, h0⟩ | ⟨gb, cap, cur, rfl, _, hg, _⟩
  · omega
  have hal := (Below.refl _ w).alloc (Nat.le_refl _) (.cells #[.pointer (some ⟨d.g, 0, none⟩), .slice (some ⟨gb, 0, none⟩) l.length cap] 93)
  obtain ⟨x, hx⟩ : ∃ x, x = l[i] := ⟨_, rfl⟩
  have cb : (w.alloc (.cells #[.pointer (some ⟨d.g, 0, none⟩), .slice (some ⟨gb, 0, none⟩) l.length cap] 93)).cell? ⟨gb, i, none⟩ = some (.int .i64 (x : Int)) := by
    have := hc.cells (g := gb) rfl i (.int .i64 (l[i] : Nat)) (by simp [cellsN, List.getElem?_eq_getElem hi])
    rw [Addr.add_lit, Nat.zero_add, ← hx] at this
    exact (hal.cell (p := ⟨gb, i, none⟩) (blk_lt hg)).trans this
  rw [← hx]
  have HR := hid (readSc_any (w := (w.alloc (.cells #[.pointer (some ⟨d.g, 0, none⟩), .slice (some ⟨gb, 0, none⟩) l.length cap] 93)).drew) ((h.below hal).kept fun _ _ => rfl) (x : Int))
  have HAL := hid hal.drew
  have hiI : (i : Int) < (l.length : Int) := by omega
  obtain ⟨w1, hw1⟩ : ∃ w1, w.alloc (.cells #[.pointer (some ⟨d.g, 0, none⟩), .slice (some ⟨gb, 0, none⟩) l.length cap] 93) = w1 := ⟨_, rfl⟩
  have t0 : w1.cell? ⟨w.heap.size, 0, none⟩ = some (.pointer (some ⟨d.g, 0, none⟩)) := by rw [← hw1]; exact (blk_cell (heap_alloc_new w _) 0).trans rfl
  have t1 : w1.cell? ⟨w.heap.size, 1, none⟩ = some (.slice (some ⟨gb, 0, none⟩) l.length cap) := by rw [← hw1]; exact (blk_cell (heap_alloc_new w _) 1).trans rfl
  rw [hw1] at cb HR HAL
  have HW1 := hid hw1
  have htl : w.heap.size < w1.heap.size := by rw [← hw1]; simp
  have hgl : gb < w1.heap.size := Nat.lt_trans (blk_lt hg) htl
  have HNS := hid (And.intro (fun hh : d.S w.heap.size => Nat.lt_irrefl _ (h.lt _ hh)) (hns gb rfl))
  clear h hal hc hg hx hw1 hns
  go_enter Try.func102, Try.ntmps102
  go_upto_region 1 with fail
  rw [HW1.out]
  go_region_held3 (fun W : World => W.cell? ⟨w.heap.size, 0, none⟩ = some (.pointer (some ⟨d.g, 0, none⟩)) ∧ W.cell? ⟨w.heap.size, 1, none⟩ = some (.slice (some ⟨gb, 0, none⟩) l.length cap) ∧ W.cell? ⟨gb, i, none⟩ = some (.int .i64 (x : Int))) (go_keep) (first | (go_at_call 103; refine HR.out.mono ?_; rintro e w7 ⟨v, rfl, hr⟩; have HQ := hid hr; have hu := hr.2.1; have y0 := (hu.cell (p := ⟨w.heap.size, 0, none⟩) (by exact htl) (HNS.out.1)).trans t0; have y1 := (hu.cell (p := ⟨w.heap.size, 1, none⟩) (by exact htl) (HNS.out.1)).trans t1; have y2 := (hu.cell (p := ⟨gb, i, none⟩) (by exact hgl) (HNS.out.2)).trans cb; clear hr hu))
  all_goals go_wp2_with fail
  all_goals go_ret2
  all_goals exact RdPost.back HAL.out ⟨v, rfl, HQ.out⟩
end Go.Proofs.Ytkhejipcclpknaa
