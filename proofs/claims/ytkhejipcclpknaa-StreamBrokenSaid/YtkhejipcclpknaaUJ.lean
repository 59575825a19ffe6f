/- Faults that lie in memory; the clone of a list of them; a device that was made with faults. No statement is proved here. -/
import Derived.Test.YtkhejipcclpknaaUF
import Derived.Test.YtkhejipcclpknaaSZ
set_option linter.unusedVariables false
set_option linter.unusedSimpArgs false
namespace Go.Proofs.Ytkhejipcclpknaa
open Go.RowKit

def FlAt (w : World) (b : Nat) (fs : List Fl) : Prop := b < w.heap.size ∧ ∀ j u, (cellsF fs)[j]? = some u → w.cell? ⟨b, j, none⟩ = some u
theorem FlAt.late {w w' : World} {B b : Nat} {fs : List Fl} (h : FlAt w b fs) (hB : b < B) (hb : Below B w w') : FlAt w' b fs := ⟨Nat.lt_of_lt_of_le h.1 hb.size, fun j u hj => (hb.cell (p := ⟨b, j, none⟩) hB).trans (h.2 j u hj)⟩
theorem infoF : (Try.prog.info? 60).map (fun i => (i.zero, i.size, i.bytes)) = some (some (.agg #[.int .i64 0, .int .i64 0, .int .i64 0, .int .i64 0]), 4, 32) := by kernel_rfl
def ClonePost (w : World) (fs : List Fl) (e : Ending) (w' : World) : Prop := ∃ g c, e = .returned (.slice (some ⟨g, 0, none⟩) fs.length c) ∧ w'.ownsRow 0 60 4 (.slice (some ⟨g, 0, none⟩) fs.length c) fs.length (cellsF fs) ∧ w.heap.size ≤ g ∧ Below w.heap.size w w'
set_option maxHeartbeats 1000000 in
set_option maxRecDepth 100000 in
theorem clone_any {w : World} {b : Nat} {fs : List Fl} (h : FlAt w b fs) (hn : fs ≠ []) (hl : fs.length ≤ 64) (c : Nat) : Calls Try.prog 31 #[.slice (some ⟨b, 0, none⟩) fs.length c] w (ClonePost w fs) := by
  obtain ⟨ti, hi, hz0, hz1, hz2⟩ := info_parts infoF
  have hnil : ∀ W n, (binOp .eql 61 (.slice (some ⟨b, 0, none⟩) n c) (.slice none 0 0)).run Try.prog W = .ok (.bool false) W := fun _ _ => rfl
  have hal := (Below.refl _ w).alloc (Nat.le_refl _) (.cells #[] 60)
  have hnew := heap_alloc_new w (.cells #[] 60)
  have hown : (w.alloc (.cells #[] 60)).ownsRow w.heap.size 60 4 (.slice (some ⟨w.heap.size, 0, none⟩) 0 0) 0 [] := ⟨rfl, .inr ⟨w.heap.size, 0, #[], rfl, Nat.le_refl _, hnew, Nat.le_refl _, by unfold maxLen; omega, rfl, rfl⟩⟩
  obtain ⟨v', w1, k1, k2, k3, k4⟩ := run_append_own3 (w.alloc (.cells #[] 60)) w.heap.size 61 61 60 ti _ 4 32 Try.underlying61 hi hz0 hz1 hz2 rfl _ _ _ hown ⟨b, 0, none⟩ fs.length c (cellsF fs) (cellsF_length fs) (fun j u hj => by
    rw [Addr.add_lit, Nat.zero_add]
    exact (hal.cell (p := ⟨b, j, none⟩) h.1).trans (h.2 j u hj)) (cellsF_one fs) (by unfold maxLen; omega) (by omega) hal.size
  rw [Nat.zero_add, List.nil_append] at k2
  have hpos := List.length_pos_iff.2 hn
  obtain ⟨g, c', rfl⟩ : ∃ g c', v' = .slice (some ⟨g, 0, none⟩) fs.length c' := by
    rcases k2.2 with ⟨_, h0⟩ | ⟨g, cap, cur, hv, _⟩
    · omega
    · exact ⟨g, cap, hv⟩
  have hB := hal.grown k3 hal.size (fun k e => by cases e; exact Nat.le_refl _)
  have hg : w.heap.size ≤ g := by
    rcases k2.2 with ⟨hh, _⟩ | ⟨g', cap, cur, hv, hb, _⟩
    · cases hh
    · cases hv
      exact hb
  have HP : Hid (w1.ownsRow 0 60 4 (.slice (some ⟨g, 0, none⟩) fs.length c') fs.length (cellsF fs) ∧ w.heap.size ≤ g ∧ Below w.heap.size w w1) := hid ⟨⟨k2.1, k2.2.imp id fun ⟨g, cap, cur, j1, j2, j3⟩ => ⟨g, cap, cur, j1, Nat.zero_le _, j3⟩⟩, hg, hB⟩
  obtain ⟨n, hnn⟩ : ∃ n, n = fs.length := ⟨_, rfl⟩
  have HN := hid hnn
  rw [← hnn] at k1 ⊢
  clear hi hz0 hz1 hz2 hal hnew hown k2 k3 k4 hpos hB hg hnn h hn hl
  go_enter Try.func31, Try.ntmps31
  go_wp2_with (at_builtin; refine wpList_append_run _ rfl (.tmp 5) (.tmp 6) 61 61 rfl _ _ rfl rfl k1 ?_)
  go_ret
  exact ⟨g, c', by rw [HN.out]; rfl, HP.out⟩
/-- A device that was made, with faults. -/
theorem dev_made2 {w : World} {g ib ic mb U S fg fc : Nat} {l : List Int} {fs : List Fl} (hU0 : 16 ≤ U) (hU1 : U ≤ 1024) (hS : S ≤ 4096) (hl : l.length ≤ 4194304) (hfl : fs.length ≤ 64) (hfk : ∀ f ∈ fs, 0 ≤ f.keep ∧ f.keep ≤ U)
    (hg : w.heap[g]? = some (.cells #[.int .i64 U, .int .i64 S, .slice (some ⟨ib, 0, none⟩) l.length ic, .slice none 0 0, .slice (some ⟨fg, 0, none⟩) fs.length fc, .map (some mb), .int .i64 0, .int .i64 0, .int .i64 0, .int .i64 0, .bool false] 78 (0, 0)))
    (hi : w.ownsRow 0 5 1 (.slice (some ⟨ib, 0, none⟩) l.length ic) l.length (cellsB l)) (hm : w.heap[mb]? = some (.map #[] 0)) (hf : w.ownsRow 0 60 4 (.slice (some ⟨fg, 0, none⟩) fs.length fc) fs.length (cellsF fs)) :
    DvM ((w.alloc (.cells (madeCells #[.int .u8 0] (U * S)) 5)).setCell ⟨g, 3, none⟩ (.slice (some ⟨w.heap.size, 0, none⟩) (U * S) (U * S))) ⟨g, ib, ic, w.heap.size, mb, .slice (some ⟨fg, 0, none⟩) fs.length fc⟩ ⟨U, S, l, List.replicate (U * S) 0, fs, fun _ _ => 0, 0, 0, 0, 0, false⟩ := by
  have hal := (Below.refl _ w).alloc (Nat.le_refl _) (.cells (madeCells #[.int .u8 0] (U * S)) 5)
  rcases hi.2 with ⟨h0, _⟩ | ⟨ib', ic', cur, he, _, hib, hle, hcm, hcs, htk⟩
  · cases h0
  cases he
  rcases hf.2 with ⟨h0, _⟩ | ⟨fg', fc', cuf, he, _, hfb, _⟩
  · cases h0
  cases he
  have n1 : g ≠ ib := fun e => by rw [e, hib] at hg; cases hg
  have n2 : g ≠ w.heap.size := fun e => by have := blk_lt hg; omega
  have n3 : g ≠ mb := fun e => by rw [e, hm] at hg; cases hg
  have n4 : ib ≠ w.heap.size := fun e => by have := blk_lt hib; omega
  have n5 : ib ≠ mb := fun e => by rw [e, hm] at hib; cases hib
  have n6 : w.heap.size ≠ mb := fun e => by have := blk_lt hm; omega
  have f1 : fg ≠ g := fun e => by rw [← e, hfb] at hg; cases hg
  have f2 : fg ≠ ib := fun e => by rw [← e, hfb] at hib; cases hib
  have f3 : fg ≠ w.heap.size := fun e => by have := blk_lt hfb; omega
  have f4 : fg ≠ mb := fun e => by rw [← e, hfb] at hm; cases hm
  have hne : ∀ j, j ≠ g → ((w.alloc (.cells (madeCells #[.int .u8 0] (U * S)) 5)).setCell ⟨g, 3, none⟩ (.slice (some ⟨w.heap.size, 0, none⟩) (U * S) (U * S))).heap[j]? = (w.alloc (.cells (madeCells #[.int .u8 0] (U * S)) 5)).heap[j]? := fun j hj => Below.heap_setCell _ ⟨g, 3, none⟩ _ j hj
  have ob : ∀ k x, (Value.slice (some ⟨fg, 0, none⟩) fs.length fc).ownBlock = some k → k ≠ x → fg ≠ x := fun k x hk hx e => hx ((Option.some.inj hk).symm.trans e)
  refine ⟨?_, ⟨cur, (hne _ n1.symm).trans ((hal.block ib (blk_lt hib)).trans hib), hle, hcm, by rw [hcs, Nat.mul_one], fun i hi => ?_⟩, ⟨_, (hne _ n2.symm).trans (heap_alloc_new w _), ?_⟩, ?_, ?_, ⟨n1, n2, n3, n4, n5, n6, fun e => f1 (Option.some.inj e), fun e => f2 (Option.some.inj e), fun e => f3 (Option.some.inj e), fun e => f4 (Option.some.inj e)⟩, hU0, hU1, hS, hl, by simp, hfl, hfk⟩
  · exact heap_setCell_same _ g 3 _ _ _ ((hal.block g (blk_lt hg)).trans hg)
  · have h2 : (cur.toList.take (l.length * 1))[i]? = some (.int .u8 l[i]) := by rw [htk, cellsB_get l i hi]
    rw [List.getElem?_take, if_pos (by simpa using hi), Array.getElem?_toList] at h2
    exact h2
  · rw [toList_madeCells_one]
    simp [cellsB]
  · exact pmap_made ((hne _ n3.symm).trans ((hal.block mb (blk_lt hm)).trans hm))
  · refine own_same hf fun k hk => ?_
    have e : fg = k := Option.some.inj hk
    subst e
    exact (hne _ f1).trans (hal.block fg (blk_lt hfb))
end Go.Proofs.Ytkhejipcclpknaa
