/- The library's slices.Replace on a slice of extents: an inner element by two. No statement is proved here. -/
import Derived.Test.YtkhejipcclpknaaExtR
set_option linter.unusedVariables false
set_option linter.unusedSimpArgs false
namespace Go.Proofs.Ytkhejipcclpknaa
open Go.RowKit

theorem overlaps_no (W : World) (r g ro go rl rc gl gc : Nat) (rcur gcur : Array Value) (hrg : r ≠ g) (hr : W.heap[r]? = some (.cells rcur 83 (0, 0))) (hg : W.heap[g]? = some (.cells gcur 83 (0, 0))) (h0 : gcur.size ≠ 0) :
    (callFunc 71 #[.slice (some ⟨r, ro, none⟩) rl rc, .slice (some ⟨g, go, none⟩) gl gc]).run Try.prog W = .ok (.value (.bool false)) W := by
  rw [run_callFunc_extern Try.func71 (by kernel_rfl) (by kernel_rfl) (by kernel_rfl) (e := Extern.SlicesOverlaps.overlaps #[79, 79] #[4]) (by kernel_rfl),
    Lib.run_overlaps_apart W 79 4 83 Try.underlying79 2 (fun _ => by kernel_rfl) ⟨r, ro, none⟩ ⟨g, go, none⟩ rl rc gl gc hrg 83 83 rcur.size gcur.size (by simp [World.shape?, hr]) (by simp [World.shape?, hg]) h0 (blk_free hr _) (blk_free hr _)]
  rfl

set_option maxHeartbeats 1000000 in
set_option maxRecDepth 100000 in
theorem replace_in2r (w : World) (g cap r rc : Nat) (cur rcur : Array Value) (hs ys : List (Int × Int)) (i k : Nat) (hn : hs.length = i + 1 + k)
    (hg : w.heap[g]? = some (.cells cur 83 (0, 0))) (hnc : hs.length ≤ cap) (hcm : cap ≤ maxLen) (hcs : cur.size = cap * 2) (htk : cur.toList.take (hs.length * 2) = cells2 hs)
    (hrg : r ≠ g) (hr : w.heap[r]? = some (.cells rcur 83 (0, 0))) (hry : rcur.toList.take (ys.length * 2) = cells2 ys) (hk : 0 < k) (hy : ys.length = 2) (hroom : i + 2 + k ≤ cap) :
    Calls Try.prog 66 #[.slice (some ⟨g, 0, none⟩) (i + 1 + k) cap, .int .i64 i, .int .i64 ((i : Int) + 1), .slice (some ⟨r, 0, none⟩) 2 rc] w (Owned w g (hs.take i ++ ys ++ hs.drop (i + 1))) := by
  obtain ⟨ti, hi, hz0, hz1, hz2⟩ := info_parts infoE
  have hcm' := hcm
  unfold maxLen at hcm
  have h2 := cells2_cut cur hs htk i (by omega)
  have h3 := cells2_mid cur hs htk (i + 1) (by omega)
  have hlen : i + 2 + k = (hs.take i ++ ys ++ hs.drop (i + 1)).length := by simp; omega
  have hyl : (cells2 ys).length = 4 := by rw [cells2_length, hy]
  rw [hn] at hnc h3
  rw [hy] at hry
  have hne : ¬ ((i : Int) = (i : Int) + 1) := by omega
  have hne2 : ¬ ((i : Int) + 1 = (i : Int) + 1 + (k : Int)) := by omega
  have hci : ¬ (cap = i) := by omega
  have hci1 : ¬ (cap = i + 1) := by omega
  have hci2 : ¬ (cap = i + 2) := by omega
  have hdl : (cells2 (hs.drop (i + 1))).length = k * 2 := by rw [cells2_length]; simp [hn]
  rw [show i + 1 + k - (i + 1) = k by omega] at h3
  -- what stands behind, two places on
  have hcp1 : ∀ (W : World), W.heap[g]? = some (.cells cur 83 (0, 0)) → ∀ ty dc sc, (Builtin.copy_ #[79, 79] ty #[.slice (some ⟨g, (i + 2) * 2, none⟩) k dc, .slice (some ⟨g, (i + 1) * 2, none⟩) k sc]).run Try.prog W =
      .ok (goInt ((min k k : Nat) : Int)) (W.setRow g (spl cur ((i + 2) * 2) (cells2 (hs.drop (i + 1))))) := fun W hW ty dc sc =>
    run_copy_rowN W _ _ ty 83 2 g ((i + 2) * 2) k dc ⟨g, (i + 1) * 2, none⟩ k sc cur 83 (cells2 (hs.drop (i + 1)))
      Try.underlying79 sizeE hW (by rw [hdl, Nat.min_self]) (cells_at hW _ _ _ h3) (by rw [hdl]; omega) (cells2_oneCell _)
  obtain ⟨c1, hc1⟩ : ∃ c1, c1 = spl cur ((i + 2) * 2) (cells2 (hs.drop (i + 1))) := ⟨_, rfl⟩
  have hc1s : c1.size = cap * 2 := by rw [hc1, spl_size _ _ _ (by rw [hdl]; omega)]; exact hcs
  have hc1t : c1.toList.take (i * 2) = cells2 (hs.take i) := by rw [hc1, spl_keep _ _ _ _ (by omega) (by omega), h2]
  have hc1d : (c1.toList.drop ((i + 2) * 2)).take (k * 2) = cells2 (hs.drop (i + 1)) := by
    have := spl_mid cur ((i + 2) * 2) (cells2 (hs.drop (i + 1))) (by omega)
    rw [hdl] at this
    rw [hc1, this]
  rw [← hc1] at hcp1
  clear hc1
  have hcp2 : ∀ (W : World), W.heap[g]? = some (.cells c1 83 (0, 0)) → W.heap[r]? = some (.cells rcur 83 (0, 0)) → ∀ ty dc, (Builtin.copy_ #[79, 79] ty #[.slice (some ⟨g, i * 2, none⟩) (2 + k) dc, .slice (some ⟨r, 0, none⟩) 2 rc]).run Try.prog W =
      .ok (goInt ((min 2 (2 + k) : Nat) : Int)) (W.setRow g (spl c1 (i * 2) (cells2 ys))) := fun W hW hWr ty dc =>
    run_copy_rowN W _ _ ty 83 2 g (i * 2) (2 + k) dc ⟨r, 0, none⟩ 2 rc c1 83 (cells2 ys)
      Try.underlying79 sizeE hW (by rw [hyl]; omega) (cells_at hWr 0 (2 * 2) _ (by rw [List.drop_zero]; exact hry)) (by omega) (cells2_oneCell _)
  obtain ⟨c2, hc2⟩ : ∃ c2, c2 = spl c1 (i * 2) (cells2 ys) := ⟨_, rfl⟩
  have hc2s : c2.size = cap * 2 := by rw [hc2, spl_size _ _ _ (by omega)]; exact hc1s
  have hc2t : c2.toList.take ((i + 2 + k) * 2) = cells2 (hs.take i ++ ys ++ hs.drop (i + 1)) := by
    rw [hc2, cells2_append, cells2_append, ← hc1t]
    have := spl_take c1 (i * 2) (cells2 ys) (k * 2) (by omega)
    rw [hyl] at this
    rw [show (i + 2 + k) * 2 = i * 2 + 4 + k * 2 by omega, this, show i * 2 + 4 = (i + 2) * 2 by omega, hc1d]
  rw [← hc2] at hcp2
  clear hc2
  have hov : ∀ (W : World) rl gl gc, W.heap[r]? = some (.cells rcur 83 (0, 0)) → W.heap[g]? = some (.cells cur 83 (0, 0)) → (callFunc 71 #[.slice (some ⟨g, (i + 2) * 2, none⟩) gl gc, .slice (some ⟨r, 0, none⟩) rl rc]).run Try.prog W = .ok (.value (.bool false)) W := fun W rl gl gc h1 h2 =>
    overlaps_no W g r _ _ _ _ _ _ cur rcur hrg.symm h2 h1 (by have := congrArg List.length hry; rw [hyl] at this; simp at this; omega)
  have hov0 := fun n rl gl gc => hov (w.drewN n) rl gl gc hr hg
  have hwi : IntKind.i64.wrap (i : Int) = (i : Int) := by rw [IntKind.wrap_i64]; omega
  have hwi1 : IntKind.i64.wrap ((i : Int) + 1) = (i : Int) + 1 := by rw [IntKind.wrap_i64]; omega
  have hwi2 : IntKind.i64.wrap ((i : Int) + 2) = (i : Int) + 2 := by rw [IntKind.wrap_i64]; omega
  have hti1 : ((i : Int) + 1).toNat = i + 1 := by omega
  have hti2 : ((i : Int) + 2).toNat = i + 2 := by omega
  have hb2 : (i : Int) + 1 ≤ (i : Int) + 1 + (k : Int) := by omega
  have hb3 : (0 : Int) ≤ (i : Int) + 1 := by omega
  have hb4 : (0 : Int) ≤ (i : Int) + 2 := by omega
  have hb5 : (i : Int) + 2 ≤ (i : Int) + 2 + (k : Int) := by omega
  have hsub : i + 2 + k - i = 2 + k := by omega
  generalize hs.take i ++ ys ++ hs.drop (i + 1) = res at hc2t hlen ⊢
  have Hf := hid hc2t
  have Hs := hid hc2s
  have Hl := hid hlen
  have Hn := hid hn
  clear hc1s hc1t hc1d hc2s hc2t hlen hn h2 h3 hdl hyl hy htk hry hcs hov
  go_enter Try.func66, Try.ntmps66
  go_wp2_with fail
  go_quiet (fail)
  go_wp2_with fail
  have hgd : ∀ n, (w.drewN n).heap[g]? = some (.cells cur 83 (0, 0)) := fun _ => hg
  go_region_law (refine step_copy_run rfl _ _ 79 79 rfl _ _ (by simp [Act.eval, Act.put]) (by simp [Act.eval, Act.put]) (hcp1 _ (hgd _) _ _ _) ?_)
  have hg1 := setRow_heap (w.drewN (nq + 1)) g cur c1 _ _ hg
  have hr1 : ((w.drewN (nq + 1)).setRow g c1).heap[r]? = some (.cells rcur 83 (0, 0)) := (setRow_other _ g r c1 hrg).trans hr
  go_wp2_with (refine wpList_copy_run _ rfl (.tmp 133) (.tmp 134) 79 79 rfl _ _ rfl rfl (hcp2 _ hg1 hr1 _ _) ?_)
  have hg2 := setRow_heap _ g c1 c2 _ _ hg1
  go_ret
  exact owned_of (Upd.setRow (S := fun k => k = g) (Upd.setRow (S := fun k => k = g) (Upd.refl _ _ |>.drewN _) g rfl _) g rfl _) hg2 rfl Hl.out (by omega) hcm' Hs.out Hf.out

end Go.Proofs.Ytkhejipcclpknaa
