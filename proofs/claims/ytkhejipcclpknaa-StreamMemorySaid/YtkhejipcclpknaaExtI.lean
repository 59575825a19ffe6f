/- The library's slices.Delete on a slice of extents, for one element. No statement is proved here. -/
import Derived.Test.YtkhejipcclpknaaExtL
set_option linter.unusedVariables false
set_option linter.unusedSimpArgs false
namespace Go.Proofs.Ytkhejipcclpknaa
open Go.RowKit

set_option maxHeartbeats 1000000 in
set_option maxRecDepth 100000 in
theorem delete_in (w : World) (g cap : Nat) (cur : Array Value) (hs : List (Int × Int)) (i k : Nat) (hn : hs.length = i + 1 + k)
    (hg : w.heap[g]? = some (.cells cur 83 (0, 0))) (hnc : hs.length ≤ cap) (hcm : cap ≤ maxLen) (hcs : cur.size = cap * 2) (htk : cur.toList.take (hs.length * 2) = cells2 hs) (hk : 0 < k) :
    Calls Try.prog 57 #[.slice (some ⟨g, 0, none⟩) (i + 1 + k) cap, .int .i64 i, .int .i64 ((i : Int) + 1)] w (Owned w g (hs.take i ++ hs.drop (i + 1))) := by
  obtain ⟨ti, hi, hz0, hz1, hz2⟩ := info_parts infoE
  have hcm' := hcm
  unfold maxLen at hcm
  have h2 := cells2_cut cur hs htk i (by omega)
  have h3 := cells2_mid cur hs htk (i + 1) (by omega)
  have hlen : i + k = (hs.take i ++ hs.drop (i + 1)).length := by simp; omega
  rw [hn] at hnc h3
  clear htk
  rw [show i + 1 + k - (i + 1) = k by omega] at h3
  have hne : ¬ ((i : Int) = (i : Int) + 1) := by omega
  have hci : ¬ (cap = i) := by omega
  have hci1 : ¬ (cap = i + 1) := by omega
  have hcik : ¬ (cap = i + k) := by omega
  have hcik' : ¬ (i + 1 + k = i + k) := by omega
  have hdl : (cells2 (hs.drop (i + 1))).length = k * 2 := by rw [cells2_length]; simp [hn]
  have hgd : (w.drew).heap[g]? = some (.cells cur 83 (0, 0)) := hg
  have happ : ∀ ty sc, (Builtin.append_ #[79, 79] ty #[.slice (some ⟨g, 0, none⟩) i cap, .slice (some ⟨g, (i + 1) * 2, none⟩) k sc]).run Try.prog w.drew = .ok (.slice (some ⟨g, 0, none⟩) (i + k) cap) (w.drew.setRow g (spl cur (i * 2) (cells2 (hs.drop (i + 1))))) := fun ty sc => by
    have h := run_append_rowN w.drew 79 ty 83 2 Try.underlying79 sizeE g 0 i cap cur hgd ⟨g, (i + 1) * 2, none⟩ k sc (cells2 (hs.drop (i + 1))) hdl (cells_at hgd _ _ _ h3) (cells2_oneCell _) (by omega) (by omega)
    rw [Nat.zero_add] at h
    exact h
  have hfin : (spl cur (i * 2) (cells2 (hs.drop (i + 1)))).toList.take ((i + k) * 2) = cells2 (hs.take i ++ hs.drop (i + 1)) := by
    rw [cells2_append, ← h2]
    have := spl_take cur (i * 2) (cells2 (hs.drop (i + 1))) 0 (by rw [hdl]; omega)
    rw [hdl] at this
    rw [show (i + k) * 2 = i * 2 + k * 2 + 0 by omega, this, List.take_zero, List.append_nil]
  have hsz : (spl cur (i * 2) (cells2 (hs.drop (i + 1)))).size = cap * 2 := by rw [spl_size _ _ _ (by rw [hdl]; omega)]; exact hcs
  obtain ⟨c1, hc1⟩ : ∃ c1, c1 = spl cur (i * 2) (cells2 (hs.drop (i + 1))) := ⟨_, rfl⟩
  rw [← hc1] at happ hfin hsz
  clear hc1
  have hwi : IntKind.i64.wrap (i : Int) = (i : Int) := by rw [IntKind.wrap_i64]; omega
  have hwi1 : IntKind.i64.wrap ((i : Int) + 1) = (i : Int) + 1 := by rw [IntKind.wrap_i64]; omega
  have hti1 : ((i : Int) + 1).toNat = i + 1 := by omega
  have hb2 : (i : Int) + 1 ≤ (i : Int) + 1 + (k : Int) := by omega
  have hb3 : (0 : Int) ≤ (i : Int) + 1 := by omega
  have hic : i ≤ cap := by omega
  have hi1c : i + 1 ≤ cap := by omega
  have hsub : i + 1 + k - (i + k) = 1 := by omega
  generalize hs.take i ++ hs.drop (i + 1) = res at hfin hlen ⊢
  have Hf := hid hfin
  have Hs := hid hsz
  have Hl := hid hlen
  clear hfin hsz hlen hn h2 h3 hdl
  go_enter Try.func57, Try.ntmps57
  go_wp2_with fail
  go_region_law (refine step_append_run rfl _ _ 79 79 rfl _ _ rfl rfl (happ _ _) ?_)
  have hg1 := setRow_heap w.drew g cur c1 _ _ hgd
  go_wp2_with (refine wpList_clear_row _ rfl (.tmp 31) 79 rfl 83 ti _ g ((i + k) * 2) 1 (cap - (i + k)) c1 83 _ rfl ?_ Try.underlying79 hi hz0 zeroOne hg1 ?_ ?_)
  · simp [Act.eval, hsub]
  · rw [Hs.out]; simp [Value.cells]; omega
  intro zs hz
  have hz' : zs.length = 2 := by simpa [Value.cells] using hz
  have Hz := hid hz'
  clear hz hz' happ
  go_wp2
  go_ret
  refine owned_of ((Upd.setRow (S := fun k => k = g) (Upd.refl _ _ |>.drew) g rfl _).setRow g rfl _) (setRow_heap _ _ _ _ _ _ hg1) rfl Hl.out (by omega) hcm' (by rw [spl_size _ _ _ (by rw [Hz.out, Hs.out]; omega)]; exact Hs.out) ?_
  rw [spl_keep _ _ _ _ (by omega) (by rw [Hs.out]; omega)]
  exact Hf.out

set_option maxHeartbeats 1000000 in
set_option maxRecDepth 100000 in
theorem delete_last (w : World) (g cap : Nat) (cur : Array Value) (hs : List (Int × Int)) (i : Nat) (hn : hs.length = i + 1)
    (hg : w.heap[g]? = some (.cells cur 83 (0, 0))) (hnc : hs.length ≤ cap) (hcm : cap ≤ maxLen) (hcs : cur.size = cap * 2) (htk : cur.toList.take (hs.length * 2) = cells2 hs) :
    Calls Try.prog 57 #[.slice (some ⟨g, 0, none⟩) (i + 1) cap, .int .i64 i, .int .i64 ((i : Int) + 1)] w (Owned w g (hs.take i)) := by
  obtain ⟨ti, hi, hz0, hz1, hz2⟩ := info_parts infoE
  have hcm' := hcm
  unfold maxLen at hcm
  have h2 := cells2_cut cur hs htk i (by omega)
  have hlen : i = (hs.take i).length := by simp; omega
  rw [hn] at hnc
  clear htk
  have hne : ¬ ((i : Int) = (i : Int) + 1) := by omega
  have hci : ¬ (cap = i) := by omega
  have hci' : ¬ (i + 1 = i) := by omega
  have hgd : (w.drew).heap[g]? = some (.cells cur 83 (0, 0)) := hg
  have happ : ∀ ty b c, (Builtin.append_ #[79, 79] ty #[.slice (some ⟨g, 0, none⟩) i cap, .slice b 0 c]).run Try.prog w.drew = .ok (.slice (some ⟨g, 0, none⟩) i cap) w.drew := fun ty b c =>
    run_append_zero w.drew 79 ty 83 2 Try.underlying79 sizeE _ b i cap c (by omega)
  have hwi : IntKind.i64.wrap (i : Int) = (i : Int) := by rw [IntKind.wrap_i64]; omega
  have hwi1 : IntKind.i64.wrap ((i : Int) + 1) = (i : Int) + 1 := by rw [IntKind.wrap_i64]; omega
  have hti1 : ((i : Int) + 1).toNat = i + 1 := by omega
  have hb3 : (0 : Int) ≤ (i : Int) + 1 := by omega
  have hic : i ≤ cap := by omega
  have hi1c : i + 1 ≤ cap := by omega
  obtain ⟨bb, hbb⟩ : ∃ bb, (if cap = i + 1 then some (⟨g, 0, none⟩ : Addr) else some ⟨g, (i + 1) * 2, none⟩) = bb := ⟨_, rfl⟩
  have Hl := hid hlen
  have H2 := hid h2
  have Hs := hid hcs
  clear hlen hn h2 hcs
  go_enter Try.func57, Try.ntmps57
  go_wp2_with fail
  go_region_law (refine step_append_run rfl _ _ 79 79 rfl _ _ rfl rfl (happ _ _ _) ?_)
  go_wp2_with (refine wpList_clear_row _ rfl (.tmp 31) 79 rfl 83 ti _ g (i * 2) 1 (cap - i) cur 83 _ rfl ?_ Try.underlying79 hi hz0 zeroOne hgd ?_ ?_)
  · simp [Act.eval]
  · rw [Hs.out]; simp [Value.cells]; omega
  intro zs hz
  have hz' : zs.length = 2 := by simpa [Value.cells] using hz
  have Hz := hid hz'
  clear hz hz' happ
  go_wp2
  go_ret
  refine owned_of (Upd.setRow (S := fun k => k = g) (Upd.refl _ _ |>.drew) g rfl _) (setRow_heap _ _ _ _ _ _ hgd) rfl Hl.out (by omega) hcm' (by rw [spl_size _ _ _ (by rw [Hz.out, Hs.out]; omega)]; exact Hs.out) ?_
  rw [spl_keep _ _ _ _ (by omega) (by rw [Hs.out]; omega)]
  exact H2.out

end Go.Proofs.Ytkhejipcclpknaa
