/- The library's slices.Replace on a slice of extents: one element by one or two. No statement is proved here. -/
import Derived.Test.YtkhejipcclpknaaExtL
set_option linter.unusedVariables false
set_option linter.unusedSimpArgs false
namespace Go.Proofs.Ytkhejipcclpknaa
open Go.RowKit

set_option maxHeartbeats 1000000 in
set_option maxRecDepth 100000 in
theorem replace_last1 (w : World) (g cap r rc : Nat) (cur rcur : Array Value) (hs ys : List (Int × Int)) (i : Nat) (hn : hs.length = i + 1)
    (hg : w.heap[g]? = some (.cells cur 83 (0, 0))) (hnc : hs.length ≤ cap) (hcm : cap ≤ maxLen) (hcs : cur.size = cap * 2) (htk : cur.toList.take (hs.length * 2) = cells2 hs)
    (hrg : r ≠ g) (hr : w.heap[r]? = some (.cells rcur 83 (0, 0))) (hry : rcur.toList.take (ys.length * 2) = cells2 ys) (hy : ys.length = 1) :
    Calls Try.prog 66 #[.slice (some ⟨g, 0, none⟩) (i + 1) cap, .int .i64 i, .int .i64 ((i : Int) + 1), .slice (some ⟨r, 0, none⟩) 1 rc] w (Owned w g (hs.take i ++ ys)) := by
  have hcm' := hcm
  unfold maxLen at hcm
  have h2 := cells2_cut cur hs htk i (by omega)
  have hlen : i + 1 = (hs.take i ++ ys).length := by simp; omega
  have hyl : (cells2 ys).length = 1 * 2 := by rw [cells2_length, hy]
  rw [hn] at hnc
  rw [hy] at hry
  have hne : ¬ ((i : Int) = (i : Int) + 1) := by omega
  have happ : ∀ ty, (Builtin.append_ #[79, 79] ty #[.slice (some ⟨g, 0, none⟩) i cap, .slice (some ⟨r, 0, none⟩) 1 rc]).run Try.prog w = .ok (.slice (some ⟨g, 0, none⟩) (i + 1) cap) (w.setRow g (spl cur (i * 2) (cells2 ys))) := fun ty => by
    have h := run_append_rowN w 79 ty 83 2 Try.underlying79 sizeE g 0 i cap cur hg ⟨r, 0, none⟩ 1 rc (cells2 ys) hyl (cells_at hr 0 (1 * 2) _ (by rw [List.drop_zero]; exact hry)) (cells2_oneCell _) (by omega) (by omega)
    rw [Nat.zero_add] at h
    exact h
  have hfin : (spl cur (i * 2) (cells2 ys)).toList.take ((i + 1) * 2) = cells2 (hs.take i ++ ys) := by
    rw [cells2_append, ← h2]
    have := spl_take cur (i * 2) (cells2 ys) 0 (by omega)
    rw [hyl] at this
    rw [show (i + 1) * 2 = i * 2 + 1 * 2 + 0 by omega, this, List.take_zero, List.append_nil]
  have hsz : (spl cur (i * 2) (cells2 ys)).size = cap * 2 := by rw [spl_size _ _ _ (by omega)]; exact hcs
  obtain ⟨c1, hc1⟩ : ∃ c1, c1 = spl cur (i * 2) (cells2 ys) := ⟨_, rfl⟩
  rw [← hc1] at happ hfin hsz
  clear hc1
  have Hf := hid hfin
  have Hs := hid hsz
  have Hl := hid hlen
  clear hfin hsz hlen hn h2 htk hry hyl hy
  go_enter Try.func66, Try.ntmps66
  go_wp2_with (refine wpList_append_run _ rfl (.tmp 32) (.tmp 33) 79 79 rfl _ _ rfl rfl (happ _) ?_)
  go_ret
  exact owned_of (Upd.setRow (S := fun k => k = g) (Upd.refl _ _) g rfl _) (setRow_heap _ _ _ _ _ _ hg) rfl Hl.out (by omega) hcm' Hs.out Hf.out

set_option maxHeartbeats 1000000 in
set_option maxRecDepth 100000 in
theorem replace_last2r (w : World) (g cap r rc : Nat) (cur rcur : Array Value) (hs ys : List (Int × Int)) (i : Nat) (hn : hs.length = i + 1)
    (hg : w.heap[g]? = some (.cells cur 83 (0, 0))) (hnc : hs.length ≤ cap) (hcm : cap ≤ maxLen) (hcs : cur.size = cap * 2) (htk : cur.toList.take (hs.length * 2) = cells2 hs)
    (hrg : r ≠ g) (hr : w.heap[r]? = some (.cells rcur 83 (0, 0))) (hry : rcur.toList.take (ys.length * 2) = cells2 ys) (hy : ys.length = 2) (hroom : i + 2 ≤ cap) :
    Calls Try.prog 66 #[.slice (some ⟨g, 0, none⟩) (i + 1) cap, .int .i64 i, .int .i64 ((i : Int) + 1), .slice (some ⟨r, 0, none⟩) 2 rc] w (Owned w g (hs.take i ++ ys)) := by
  have hcm' := hcm
  unfold maxLen at hcm
  have h2 := cells2_cut cur hs htk i (by omega)
  have hlen : i + 2 = (hs.take i ++ ys).length := by simp; omega
  have hyl : (cells2 ys).length = 2 * 2 := by rw [cells2_length, hy]
  rw [hn] at hnc
  rw [hy] at hry
  have hne : ¬ ((i : Int) = (i : Int) + 1) := by omega
  have happ : ∀ ty, (Builtin.append_ #[79, 79] ty #[.slice (some ⟨g, 0, none⟩) i cap, .slice (some ⟨r, 0, none⟩) 2 rc]).run Try.prog w = .ok (.slice (some ⟨g, 0, none⟩) (i + 2) cap) (w.setRow g (spl cur (i * 2) (cells2 ys))) := fun ty => by
    have h := run_append_rowN w 79 ty 83 2 Try.underlying79 sizeE g 0 i cap cur hg ⟨r, 0, none⟩ 2 rc (cells2 ys) hyl (cells_at hr 0 (2 * 2) _ (by rw [List.drop_zero]; exact hry)) (cells2_oneCell _) (by omega) (by omega)
    rw [Nat.zero_add] at h
    exact h
  have hfin : (spl cur (i * 2) (cells2 ys)).toList.take ((i + 2) * 2) = cells2 (hs.take i ++ ys) := by
    rw [cells2_append, ← h2]
    have := spl_take cur (i * 2) (cells2 ys) 0 (by omega)
    rw [hyl] at this
    rw [show (i + 2) * 2 = i * 2 + 2 * 2 + 0 by omega, this, List.take_zero, List.append_nil]
  have hsz : (spl cur (i * 2) (cells2 ys)).size = cap * 2 := by rw [spl_size _ _ _ (by omega)]; exact hcs
  obtain ⟨c1, hc1⟩ : ∃ c1, c1 = spl cur (i * 2) (cells2 ys) := ⟨_, rfl⟩
  rw [← hc1] at happ hfin hsz
  clear hc1
  have Hf := hid hfin
  have Hs := hid hsz
  have Hl := hid hlen
  clear hfin hsz hlen hn h2 htk hry hyl hy
  go_enter Try.func66, Try.ntmps66
  go_wp2_with (refine wpList_append_run _ rfl (.tmp 32) (.tmp 33) 79 79 rfl _ _ rfl rfl (happ _) ?_)
  go_ret
  exact owned_of (Upd.setRow (S := fun k => k = g) (Upd.refl _ _) g rfl _) (setRow_heap _ _ _ _ _ _ hg) rfl Hl.out (by omega) hcm' Hs.out Hf.out

set_option maxHeartbeats 1000000 in
set_option maxRecDepth 100000 in
theorem replace_in1 (w : World) (g cap r rc : Nat) (cur rcur : Array Value) (hs ys : List (Int × Int)) (i k : Nat) (hn : hs.length = i + 1 + k)
    (hg : w.heap[g]? = some (.cells cur 83 (0, 0))) (hnc : hs.length ≤ cap) (hcm : cap ≤ maxLen) (hcs : cur.size = cap * 2) (htk : cur.toList.take (hs.length * 2) = cells2 hs)
    (hrg : r ≠ g) (hr : w.heap[r]? = some (.cells rcur 83 (0, 0))) (hry : rcur.toList.take (ys.length * 2) = cells2 ys) (hk : 0 < k) (hy : ys.length = 1) :
    Calls Try.prog 66 #[.slice (some ⟨g, 0, none⟩) (i + 1 + k) cap, .int .i64 i, .int .i64 ((i : Int) + 1), .slice (some ⟨r, 0, none⟩) 1 rc] w (Owned w g (hs.take i ++ ys ++ hs.drop (i + 1))) := by
  obtain ⟨ti, hi, hz0, hz1, hz2⟩ := info_parts infoE
  have hcm' := hcm
  unfold maxLen at hcm
  have h2 := cells2_cut cur hs htk i (by omega)
  have h3 := cells2_mid cur hs htk (i + 1) (by omega)
  have hlen : i + 1 + k = (hs.take i ++ ys ++ hs.drop (i + 1)).length := by simp; omega
  have hyl : (cells2 ys).length = 2 := by rw [cells2_length, hy]
  rw [hn] at hnc h3
  rw [hy] at hry
  have hne : ¬ ((i : Int) = (i : Int) + 1) := by omega
  have hne2 : ¬ ((i : Int) + 1 = (i : Int) + 1 + (k : Int)) := by omega
  have hci : ¬ (cap = i) := by omega
  have hci1 : ¬ (cap = i + 1) := by omega
  have hdl : (cells2 (hs.drop (i + 1))).length = k * 2 := by rw [cells2_length]; simp [hn]
  rw [show i + 1 + k - (i + 1) = k by omega] at h3
  have hcp1 : ∀ (W : World), W.heap[g]? = some (.cells cur 83 (0, 0)) → W.heap[r]? = some (.cells rcur 83 (0, 0)) → ∀ ty dc, (Builtin.copy_ #[79, 79] ty #[.slice (some ⟨g, i * 2, none⟩) (1 + k) dc, .slice (some ⟨r, 0, none⟩) 1 rc]).run Try.prog W =
      .ok (goInt ((min 1 (1 + k) : Nat) : Int)) (W.setRow g (spl cur (i * 2) (cells2 ys))) := fun W hW hWr ty dc =>
    run_copy_rowN W _ _ ty 83 2 g (i * 2) (1 + k) dc ⟨r, 0, none⟩ 1 rc cur 83 (cells2 ys)
      Try.underlying79 sizeE hW (by rw [hyl]; omega) (cells_at hWr 0 (1 * 2) _ (by rw [List.drop_zero]; exact hry)) (by omega) (cells2_oneCell _)
  obtain ⟨c1, hc1⟩ : ∃ c1, c1 = spl cur (i * 2) (cells2 ys) := ⟨_, rfl⟩
  have hc1s : c1.size = cap * 2 := by rw [hc1, spl_size _ _ _ (by omega)]; exact hcs
  have hc1t : c1.toList.take ((i + 1) * 2) = cells2 (hs.take i ++ ys) := by
    rw [hc1, cells2_append, ← h2]
    have := spl_take cur (i * 2) (cells2 ys) 0 (by omega)
    rw [hyl] at this
    rw [show (i + 1) * 2 = i * 2 + 2 + 0 by omega, this, List.take_zero, List.append_nil]
  have hc1d : (c1.toList.drop ((i + 1) * 2)).take (k * 2) = cells2 (hs.drop (i + 1)) := by
    rw [hc1, ← h3]
    have := spl_drop cur (i * 2) (cells2 ys) (by omega)
    rw [hyl] at this
    rw [show (i + 1) * 2 = i * 2 + 2 by omega, this]
  rw [← hc1] at hcp1
  clear hc1
  have hcp2 : ∀ (W : World), W.heap[g]? = some (.cells c1 83 (0, 0)) → ∀ ty dc sc, (Builtin.copy_ #[79, 79] ty #[.slice (some ⟨g, (i + 1) * 2, none⟩) k dc, .slice (some ⟨g, (i + 1) * 2, none⟩) k sc]).run Try.prog W =
      .ok (goInt ((min k k : Nat) : Int)) (W.setRow g (spl c1 ((i + 1) * 2) (cells2 (hs.drop (i + 1))))) := fun W hW ty dc sc =>
    run_copy_rowN W _ _ ty 83 2 g ((i + 1) * 2) k dc ⟨g, (i + 1) * 2, none⟩ k sc c1 83 (cells2 (hs.drop (i + 1)))
      Try.underlying79 sizeE hW (by rw [hdl, Nat.min_self]) (cells_at hW _ _ _ hc1d) (by rw [hdl]; omega) (cells2_oneCell _)
  obtain ⟨c2, hc2⟩ : ∃ c2, c2 = spl c1 ((i + 1) * 2) (cells2 (hs.drop (i + 1))) := ⟨_, rfl⟩
  have hc2s : c2.size = cap * 2 := by rw [hc2, spl_size _ _ _ (by rw [hdl]; omega)]; exact hc1s
  have hc2t : c2.toList.take ((i + 1 + k) * 2) = cells2 (hs.take i ++ ys ++ hs.drop (i + 1)) := by
    rw [hc2, cells2_append, ← hc1t]
    have := spl_take c1 ((i + 1) * 2) (cells2 (hs.drop (i + 1))) 0 (by omega)
    rw [hdl] at this
    rw [show (i + 1 + k) * 2 = (i + 1) * 2 + k * 2 + 0 by omega, this, List.take_zero, List.append_nil]
  rw [← hc2] at hcp2
  clear hc2
  have hwi : IntKind.i64.wrap (i : Int) = (i : Int) := by rw [IntKind.wrap_i64]; omega
  have hwi1 : IntKind.i64.wrap ((i : Int) + 1) = (i : Int) + 1 := by rw [IntKind.wrap_i64]; omega
  have hti1 : ((i : Int) + 1).toNat = i + 1 := by omega
  have hb2 : (i : Int) + 1 ≤ (i : Int) + 1 + (k : Int) := by omega
  have hb3 : (0 : Int) ≤ (i : Int) + 1 := by omega
  have hsub : i + 1 + k - i = 1 + k := by omega
  have hclz := fun (W : World) ty b c => run_clear_zero (P := Try.prog) W 79 ty 83 b c Try.underlying79
  generalize hs.take i ++ ys ++ hs.drop (i + 1) = res at hc2t hlen ⊢
  have Hf := hid hc2t
  have Hs := hid hc2s
  have Hl := hid hlen
  have Hn := hid hn
  clear hc1s hc1t hc1d hc2s hc2t hlen hn h2 h3 hdl hyl hy htk hry hcs
  go_enter Try.func66, Try.ntmps66
  go_wp2_with fail
  go_quiet (fail)
  go_wp2_with (refine wpList_copy_run _ rfl (.tmp 95) (.tmp 96) 79 79 rfl _ _ rfl rfl (hcp1 _ hg hr _ _) ?_)

  have hg1 := setRow_heap (w.drewN nq) g cur c1 _ _ hg
  have hg1d : (((w.drewN nq).setRow g c1).drew).heap[g]? = some (.cells c1 83 (0, 0)) := hg1
  go_region_law (refine step_copy_run rfl _ _ 79 79 rfl _ _ (by simp [Act.eval, Act.put]) (by simp [Act.eval, Act.put]) (hcp2 _ hg1d _ _ _) ?_)
  have hg2 := setRow_heap _ g c1 c2 _ _ hg1d
  clear hcp1 hcp2
  go_wp2
  · have e : cap = i + 1 + k := by assumption
    subst e
    go_ret
    exact owned_of (Upd.setRow (S := fun k => k = g) ((Upd.setRow (S := fun k => k = g) (Upd.refl _ _ |>.drewN _) g rfl _).drew) g rfl _) hg2 rfl Hl.out (by omega) hcm' Hs.out Hf.out
  · go_ret
    exact owned_of (Upd.setRow (S := fun k => k = g) ((Upd.setRow (S := fun k => k = g) (Upd.refl _ _ |>.drewN _) g rfl _).drew) g rfl _) hg2 rfl Hl.out (by omega) hcm' Hs.out Hf.out

end Go.Proofs.Ytkhejipcclpknaa
