/- The library's slices.Insert on a slice of extents, for one element. No statement is proved here. -/
import Derived.Test.YtkhejipcclpknaaExtH
set_option linter.unusedVariables false
set_option linter.unusedSimpArgs false
namespace Go.Proofs.Ytkhejipcclpknaa
open Go.RowKit

set_option maxHeartbeats 1000000 in
set_option maxRecDepth 100000 in
/-- Insert at the end: whatever the slice (nil too). -/
theorem insert_end (w : World) (v : Value) (r rc : Nat) (rcur : Array Value) (hs ys : List (Int × Int)) (hown : w.ownsRow 0 83 2 v hs.length (cells2 hs))
    (hr : w.heap[r]? = some (.cells rcur 83 (0, 0))) (hry : rcur.toList.take (ys.length * 2) = cells2 ys) (hy : ys.length = 1) (hsm : hs.length ≤ 10000) :
    Calls Try.prog 58 #[v, .int .i64 hs.length, .slice (some ⟨r, 0, none⟩) 1 rc] w fun e w' => ∃ v', e = .returned v' ∧ w'.ownsRow 0 83 2 v' (hs ++ ys).length (cells2 (hs ++ ys)) ∧ w.grownBy w' v.ownBlock ∧ (∀ k, v'.ownBlock = some k → v.ownBlock = some k ∨ w.heap.size ≤ k) := by
  obtain ⟨v', w', hrun, ho, hgr, hnil⟩ := run_append_E w 79 v hs ys hown r 0 rc (cells_at hr 0 (ys.length * 2) _ (by rw [List.drop_zero]; exact hry)) (by omega)
  have hnew : ∀ k, v'.ownBlock = some k → v.ownBlock = some k ∨ w.heap.size ≤ k := by
    intro k hk
    rcases hnil with h | h
    · exact .inl (h ▸ hk)
    · rw [h] at hk; simp at hk; omega
  rw [hy] at hrun
  refine Calls.mono (R := fun e W' => e = .returned v' ∧ W' = w') ?_ (by rintro e W' ⟨rfl, rfl⟩; exact ⟨v', rfl, ho, hgr, hnew⟩)
  rcases hown.2 with ⟨rfl, h0⟩ | ⟨g, cap, cur, rfl, _, hg, hnc, hcm, _⟩
  · rw [h0]
    clear ho hgr hnil hnew hown hry hr hy hsm h0
    go_enter Try.func58, Try.ntmps58
    go_wp2_with (at_builtin; refine wpList_append_run _ rfl (.tmp 23) (.tmp 24) 79 79 rfl _ _ rfl rfl hrun ?_)
    go_ret
    exact ⟨rfl, rfl⟩
  · obtain ⟨n, hn⟩ : ∃ n, n = hs.length := ⟨_, rfl⟩
    rw [← hn] at hrun hsm hnc ⊢
    obtain ⟨bb, hbb⟩ : ∃ bb, (if cap = n then some (⟨g, 0, none⟩ : Addr) else some ⟨g, n * 2, none⟩) = bb := ⟨_, rfl⟩
    unfold maxLen at hcm
    clear ho hgr hnil hnew hown hry hr hy hn
    go_enter Try.func58, Try.ntmps58
    go_wp2_with (at_builtin; refine wpList_append_run _ rfl (.tmp 23) (.tmp 24) 79 79 rfl _ _ rfl rfl hrun ?_)
    go_ret
    exact ⟨rfl, rfl⟩

set_option maxHeartbeats 1000000 in
set_option maxRecDepth 100000 in
/-- Insert ahead of the end, where there is room. -/
theorem insert_room (w : World) (g cap r rc : Nat) (cur rcur : Array Value) (hs ys : List (Int × Int)) (i k : Nat) (hn : hs.length = i + k)
    (hg : w.heap[g]? = some (.cells cur 83 (0, 0))) (hnc : hs.length ≤ cap) (hcm : cap ≤ maxLen) (hcs : cur.size = cap * 2) (htk : cur.toList.take (hs.length * 2) = cells2 hs)
    (hrg : r ≠ g) (hr : w.heap[r]? = some (.cells rcur 83 (0, 0))) (hry : rcur.toList.take (ys.length * 2) = cells2 ys) (hy : ys.length = 1) (hk : 0 < k) (hroom : i + k + 1 ≤ cap) :
    Calls Try.prog 58 #[.slice (some ⟨g, 0, none⟩) (i + k) cap, .int .i64 i, .slice (some ⟨r, 0, none⟩) 1 rc] w (Owned w g (hs.take i ++ ys ++ hs.drop i)) := by
  have hcm' := hcm
  unfold maxLen at hcm
  have h2 := cells2_cut cur hs htk i (by omega)
  have h3 := cells2_mid cur hs htk i (by omega)
  have hlen : i + k + 1 = (hs.take i ++ ys ++ hs.drop i).length := by simp; omega
  have hyl : (cells2 ys).length = 2 := by rw [cells2_length, hy]
  rw [hn] at hnc h3
  rw [hy] at hry
  rw [show i + k - i = k by omega] at h3
  have hne : ¬ ((i : Int) = (i : Int) + (k : Int)) := by omega
  have hci : ¬ (cap = i) := by omega
  have hci1 : ¬ (cap = i + 1) := by omega
  have hdl : (cells2 (hs.drop i)).length = k * 2 := by rw [cells2_length]; simp [hn]
  have hgd : w.drew.heap[g]? = some (.cells cur 83 (0, 0)) := hg
  have hcp1 : ∀ ty dc sc, (Builtin.copy_ #[79, 79] ty #[.slice (some ⟨g, (i + 1) * 2, none⟩) k dc, .slice (some ⟨g, i * 2, none⟩) (k + 1) sc]).run Try.prog w.drew =
      .ok (goInt ((min (k + 1) k : Nat) : Int)) (w.drew.setRow g (spl cur ((i + 1) * 2) (cells2 (hs.drop i)))) := fun ty dc sc =>
    run_copy_rowN w.drew _ _ ty 83 2 g ((i + 1) * 2) k dc ⟨g, i * 2, none⟩ (k + 1) sc cur 83 (cells2 (hs.drop i))
      Try.underlying79 sizeE hgd (by rw [hdl, Nat.min_eq_right (by omega)]) (cells_at hgd _ _ _ h3) (by rw [hdl]; omega) (cells2_oneCell _)
  obtain ⟨c1, hc1⟩ : ∃ c1, c1 = spl cur ((i + 1) * 2) (cells2 (hs.drop i)) := ⟨_, rfl⟩
  have hc1s : c1.size = cap * 2 := by rw [hc1, spl_size _ _ _ (by rw [hdl]; omega)]; exact hcs
  have hc1t : c1.toList.take (i * 2) = cells2 (hs.take i) := by rw [hc1, spl_keep _ _ _ _ (by omega) (by omega), h2]
  have hc1d : (c1.toList.drop ((i + 1) * 2)).take (k * 2) = cells2 (hs.drop i) := by
    have := spl_mid cur ((i + 1) * 2) (cells2 (hs.drop i)) (by omega)
    rw [hdl] at this
    rw [hc1, this]
  rw [← hc1] at hcp1
  clear hc1
  have hcp2 : ∀ (W : World), W.heap[g]? = some (.cells c1 83 (0, 0)) → W.heap[r]? = some (.cells rcur 83 (0, 0)) → ∀ ty dc, (Builtin.copy_ #[79, 79] ty #[.slice (some ⟨g, i * 2, none⟩) (k + 1) dc, .slice (some ⟨r, 0, none⟩) 1 rc]).run Try.prog W =
      .ok (goInt ((min 1 (k + 1) : Nat) : Int)) (W.setRow g (spl c1 (i * 2) (cells2 ys))) := fun W hW hWr ty dc =>
    run_copy_rowN W _ _ ty 83 2 g (i * 2) (k + 1) dc ⟨r, 0, none⟩ 1 rc c1 83 (cells2 ys)
      Try.underlying79 sizeE hW (by rw [hyl]; omega) (cells_at hWr 0 (1 * 2) _ (by rw [List.drop_zero]; exact hry)) (by omega) (cells2_oneCell _)
  obtain ⟨c2, hc2⟩ : ∃ c2, c2 = spl c1 (i * 2) (cells2 ys) := ⟨_, rfl⟩
  have hc2s : c2.size = cap * 2 := by rw [hc2, spl_size _ _ _ (by omega)]; exact hc1s
  have hc2t : c2.toList.take ((i + k + 1) * 2) = cells2 (hs.take i ++ ys ++ hs.drop i) := by
    rw [hc2, cells2_append, cells2_append, ← hc1t]
    have := spl_take c1 (i * 2) (cells2 ys) (k * 2) (by omega)
    rw [hyl] at this
    rw [show (i + k + 1) * 2 = i * 2 + 2 + k * 2 by omega, this, show i * 2 + 2 = (i + 1) * 2 by omega, hc1d]
  rw [← hc2] at hcp2
  clear hc2
  have hov0 : ∀ rl gl gc, (callFunc 71 #[.slice (some ⟨r, 0, none⟩) rl rc, .slice (some ⟨g, (i + 1) * 2, none⟩) gl gc]).run Try.prog w = .ok (.value (.bool false)) w := fun rl gl gc =>
    overlaps_no w r g _ _ _ _ _ _ rcur cur hrg hr hg (by omega)
  have hwi : IntKind.i64.wrap (i : Int) = (i : Int) := by rw [IntKind.wrap_i64]; omega
  have hwi1 : IntKind.i64.wrap ((i : Int) + 1) = (i : Int) + 1 := by rw [IntKind.wrap_i64]; omega
  have hti1 : ((i : Int) + 1).toNat = i + 1 := by omega
  have hb2 : (i : Int) + 1 ≤ (i : Int) + (k : Int) + 1 := by omega
  have hb3 : (0 : Int) ≤ (i : Int) + 1 := by omega
  have hb4 : (i : Int) ≤ (i : Int) + (k : Int) + 1 := by omega
  have hsub : i + k + 1 - i = k + 1 := by omega
  have hsub2 : i + k + 1 - (i + 1) = k := by omega
  generalize hs.take i ++ ys ++ hs.drop i = res at hc2t hlen ⊢
  have Hf := hid hc2t
  have Hs := hid hc2s
  have Hl := hid hlen
  have Hn := hid hn
  clear hc1s hc1t hc1d hc2s hc2t hlen hn h2 h3 hdl hyl hy htk hry hcs
  go_enter Try.func58, Try.ntmps58
  go_wp2_with fail
  go_region_law (fail)
  have hg1 := setRow_heap w.drew g cur c1 _ _ hg
  have hr1 : (w.drew.setRow g c1).heap[r]? = some (.cells rcur 83 (0, 0)) := (setRow_other _ g r c1 hrg).trans hr
  go_wp2_with (refine wpList_copy_run _ rfl (.tmp 80) (.tmp 81) 79 79 rfl _ _ rfl rfl (hcp2 _ hg1 hr1 _ (cap - i)) ?_)
  have hg2 := setRow_heap _ g c1 c2 _ _ hg1
  go_ret
  exact owned_of (Upd.setRow (S := fun k => k = g) (Upd.setRow (S := fun k => k = g) (Upd.refl _ _ |>.drew) g rfl _) g rfl _) hg2 rfl Hl.out (by omega) hcm' Hs.out Hf.out

set_option maxHeartbeats 1000000 in
set_option maxRecDepth 100000 in
/-- Insert ahead of the end. -/
theorem insert_in (w : World) (g cap r rc : Nat) (cur rcur : Array Value) (hs ys : List (Int × Int)) (i k : Nat) (hn : hs.length = i + k)
    (hg : w.heap[g]? = some (.cells cur 83 (0, 0))) (hnc : hs.length ≤ cap) (hcm : cap ≤ maxLen) (hcs : cur.size = cap * 2) (htk : cur.toList.take (hs.length * 2) = cells2 hs)
    (hrg : r ≠ g) (hr : w.heap[r]? = some (.cells rcur 83 (0, 0))) (hry : rcur.toList.take (ys.length * 2) = cells2 ys) (hy : ys.length = 1) (hk : 0 < k) (hsm : hs.length ≤ 10000) :
    Calls Try.prog 58 #[.slice (some ⟨g, 0, none⟩) (i + k) cap, .int .i64 i, .slice (some ⟨r, 0, none⟩) 1 rc] w (Owned w g (hs.take i ++ ys ++ hs.drop i)) := by
  by_cases hroom : i + k + 1 ≤ cap
  · exact insert_room w g cap r rc cur rcur hs ys i k hn hg hnc hcm hcs htk hrg hr hry hy hk hroom
  obtain ⟨ti, hi, hz0, hz1, hz2⟩ := info_parts infoE
  have hcm' := hcm
  unfold maxLen at hcm
  have h2 := cells2_cut cur hs htk i (by omega)
  have h3 := cells2_mid cur hs htk i (by omega)
  have hlen : i + k + 1 = (hs.take i ++ ys ++ hs.drop i).length := by simp; omega
  have hyl : (cells2 ys).length = 1 * 2 := by rw [cells2_length, hy]
  have hil : (cells2 (hs.take i)).length = i * 2 := by rw [cells2_length]; simp; omega
  have hdl : (cells2 (hs.drop i)).length = k * 2 := by rw [cells2_length]; simp [hn]
  rw [hn] at hnc h3
  rw [hy] at hry
  rw [show i + k - i = k by omega] at h3
  have hne : ¬ ((i : Int) = (i : Int) + (k : Int)) := by omega
  have hci : ¬ (cap = i) := by omega
  have hgt : (cap : Int) < (i : Int) + (k : Int) + 1 := by omega
  have happ : ∀ ty, ∃ G c1, (Builtin.append_ #[79, 3] ty #[.slice (some ⟨g, 0, none⟩) i cap, .int .i64 ((i : Int) + (k : Int) + 1 - (i : Int))]).run Try.prog w =
      .ok (.slice (some ⟨w.heap.size, 0, none⟩) (i + k + 1) G) (w.drew.alloc (.cells c1 83)) ∧ i + k + 1 ≤ G ∧ G ≤ maxLen ∧ c1.size = G * 2 ∧ c1.toList.take (i * 2) = cells2 (hs.take i) := fun ty => by
    have hold := run_firstCells_some (P := Try.prog) w.drew ti.size i ⟨g, 0, none⟩ i cap (cells2 (hs.take i)) (by rw [hz1]; exact hil) (cells_at (w := w.drew) hg 0 (i * 2) _ (by rw [List.drop_zero]; exact h2))
    have h := Lib.run_append_grow_zeros (P := Try.prog) w 79 3 ty 83 ti _ .i64 .i64 Try.underlying79 Try.underlying3 hi hz0 (some ⟨g, 0, none⟩) i cap (cells2 (hs.take i)) hold (k + 1) (by omega) (by omega) (by omega) (by omega) (by rw [hz2]; omega) (by rw [hz2]; exact growslice_fits (by omega) (by omega))
    have hge := grownCap_ge w (i + (k + 1)) cap 83
    have hle := grownCap_le_maxLen w (i + (k + 1)) cap 83 (by unfold maxLen; omega)
    generalize grownCap w (i + (k + 1)) cap 83 = G at h hge hle
    rw [show (((k + 1 : Nat) : Int)) = (i : Int) + (k : Int) + 1 - (i : Int) by omega, show i + (k + 1) = i + k + 1 by omega] at h
    refine ⟨G, _, h, by omega, hle, ?_, ?_⟩
    · simp [size_zeroCells, hil, Value.cells]; omega
    · simp only [Array.toList_append, List.append_assoc]
      rw [← hil]
      exact List.take_left
  have hik : i + k ≤ 10000 := by omega
  generalize hres : hs.take i ++ ys ++ hs.drop i = res at hlen ⊢
  have Hres := hid hres
  have Hl := hid hlen
  have H2 := hid h2
  have H3 := hid h3
  have Hyl := hid hyl
  have Hdl := hid hdl
  have Hry := hid hry
  clear hlen h2 h3 hyl hdl hry hres hil htk hn
  have hwi : IntKind.i64.wrap (i : Int) = (i : Int) := by rw [IntKind.wrap_i64]; omega
  have hwi1 : IntKind.i64.wrap ((i : Int) + 1) = (i : Int) + 1 := by rw [IntKind.wrap_i64]; omega
  have hti1 : ((i : Int) + 1).toNat = i + 1 := by omega
  have hb2 : (i : Int) + 1 ≤ (i : Int) + (k : Int) + 1 := by omega
  have hb3 : (0 : Int) ≤ (i : Int) + 1 := by omega
  have hb4 : (i : Int) ≤ (i : Int) + (k : Int) := by omega
  have hsub : i + k + 1 - i = k + 1 := by omega
  have hsub2 : i + k + 1 - (i + 1) = k := by omega
  obtain ⟨G, c1, hrun, hG1, hG2, hc1s, hc1t⟩ := happ 79
  have hG2' := hG2
  unfold maxLen at hG2
  have hGi : ¬ (G = i) := by omega
  have hGi2 : ¬ (G = i + 1) := by omega
  have Hc1s := hid hc1s
  have Hc1t := hid hc1t
  clear hc1s hc1t happ
  have hlt := blk_lt hg
  have hltr := blk_lt hr
  have hw1 : (w.drew.alloc (.cells c1 83)).heap[w.heap.size]? = some (.cells c1 83 (0, 0)) := heap_alloc_new w.drew _
  have hw1g : (w.drew.alloc (.cells c1 83)).heap[g]? = some (.cells cur 83 (0, 0)) := (Below.heap_alloc w.drew _ g hlt).trans hg
  have hw1r : (w.drew.alloc (.cells c1 83)).heap[r]? = some (.cells rcur 83 (0, 0)) := (Below.heap_alloc w.drew _ r hltr).trans hr
  have hu1 : Upd (fun k => k = g) w (w.drew.alloc (.cells c1 83)) := ((Upd.refl _ _).drew).alloc _
  obtain ⟨W1, hW1⟩ : ∃ W1, W1 = w.drew.alloc (.cells c1 83) := ⟨_, rfl⟩
  rw [← hW1] at hrun hw1 hw1g hw1r hu1
  clear hW1
  have hgn : g ≠ w.heap.size := by omega
  have hcp1 : ∀ ty, (Builtin.copy_ #[79, 79] ty #[.slice (some ⟨w.heap.size, i * 2, none⟩) (k + 1) (G - i), .slice (some ⟨r, 0, none⟩) 1 rc]).run Try.prog W1 =
      .ok (goInt ((min 1 (k + 1) : Nat) : Int)) (W1.setRow w.heap.size (spl c1 (i * 2) (cells2 ys))) := fun ty =>
    run_copy_rowN W1 _ _ ty 83 2 w.heap.size (i * 2) (k + 1) (G - i) ⟨r, 0, none⟩ 1 rc c1 83 (cells2 ys)
      Try.underlying79 sizeE hw1 (by rw [Hyl.out]; omega) (cells_at hw1r 0 (1 * 2) _ (by rw [List.drop_zero]; exact Hry.out)) (by rw [Hyl.out, Hc1s.out]; omega) (cells2_oneCell _)
  obtain ⟨c2, hc2⟩ : ∃ c2, c2 = spl c1 (i * 2) (cells2 ys) := ⟨_, rfl⟩
  have hyl := Hyl.out
  have hc1s := Hc1s.out
  have Hc2s : Hid (c2.size = G * 2) := hid (by rw [hc2, spl_size _ _ _ (by omega)]; exact hc1s)
  have Hc2t : Hid (c2.toList.take ((i + 1) * 2) = cells2 (hs.take i ++ ys)) := hid (by
    rw [hc2, cells2_append, ← Hc1t.out]
    have := spl_take c1 (i * 2) (cells2 ys) 0 (by omega)
    rw [hyl] at this
    rw [show (i + 1) * 2 = i * 2 + 1 * 2 + 0 by omega, this, List.take_zero, List.append_nil])
  rw [← hc2] at hcp1
  clear hc2 hyl hc1s
  have hw2 := setRow_heap W1 w.heap.size c1 c2 _ _ hw1
  have hw2g : ((W1.setRow w.heap.size c2).drew).heap[g]? = some (.cells cur 83 (0, 0)) := (setRow_other W1 w.heap.size g c2 hgn).trans hw1g
  have hw2d : ((W1.setRow w.heap.size c2).drew).heap[w.heap.size]? = some (.cells c2 83 (0, 0)) := hw2
  have hu2 : Upd (fun k => k = g) w ((W1.setRow w.heap.size c2).drew) := by
    refine Upd.drew ?_
    have hsz := hu1.size
    exact ⟨hu1.os, hu1.tape, hu1.output, by simpa using hsz, fun j hj hs => (setRow_other W1 w.heap.size j c2 (by omega)).trans (hu1.block j hj hs)⟩
  have hcp2 : ∀ ty dc sc, (Builtin.copy_ #[79, 79] ty #[.slice (some ⟨w.heap.size, (i + 1) * 2, none⟩) k dc, .slice (some ⟨g, i * 2, none⟩) k sc]).run Try.prog ((W1.setRow w.heap.size c2).drew) =
      .ok (goInt ((min k k : Nat) : Int)) (((W1.setRow w.heap.size c2).drew).setRow w.heap.size (spl c2 ((i + 1) * 2) (cells2 (hs.drop i)))) := fun ty dc sc =>
    run_copy_rowN _ _ _ ty 83 2 w.heap.size ((i + 1) * 2) k dc ⟨g, i * 2, none⟩ k sc c2 83 (cells2 (hs.drop i))
      Try.underlying79 sizeE hw2d (by rw [Hdl.out, Nat.min_self]) (cells_at hw2g _ _ _ H3.out) (by rw [Hdl.out, Hc2s.out]; omega) (cells2_oneCell _)
  obtain ⟨c3, hc3⟩ : ∃ c3, c3 = spl c2 ((i + 1) * 2) (cells2 (hs.drop i)) := ⟨_, rfl⟩
  have hdl := Hdl.out
  have hc2s := Hc2s.out
  have Hc3s : Hid (c3.size = G * 2) := hid (by rw [hc3, spl_size _ _ _ (by omega)]; exact hc2s)
  have Hc3t : Hid (c3.toList.take ((i + k + 1) * 2) = cells2 res) := hid (by
    rw [← Hres.out, cells2_append, ← Hc2t.out, hc3]
    have := spl_take c2 ((i + 1) * 2) (cells2 (hs.drop i)) 0 (by omega)
    rw [hdl] at this
    rw [show (i + k + 1) * 2 = (i + 1) * 2 + k * 2 + 0 by omega, this, List.take_zero, List.append_nil])
  rw [← hc3] at hcp2
  clear hc3 hdl hc2s
  have hw3 := setRow_heap _ w.heap.size c2 c3 _ _ hw2d
  have hu3 : Upd (fun k => k = g) w (((W1.setRow w.heap.size c2).drew).setRow w.heap.size c3) := by
    have hsz := hu2.size
    exact ⟨hu2.os, hu2.tape, hu2.output, by simpa using hsz, fun j hj hs => (setRow_other _ w.heap.size j c3 (by omega)).trans (hu2.block j hj hs)⟩
  have Hu3 := hid hu3
  have Hw3 := hid hw3
  clear hu1 hu2 hu3 hw1 hw1g hw1r hw2 hw2g hw2d hw3 hgn
  go_enter Try.func58, Try.ntmps58
  go_wp2_with (first | (at_builtin; refine wpList_append_run _ rfl (.tmp 34) (.tmp 39) 79 3 rfl _ _ rfl rfl hrun ?_) | (refine wpList_copy_run _ rfl (.tmp 43) (.tmp 44) 79 79 rfl _ _ rfl rfl (hcp1 _) ?_))
  clear hrun hcp1
  go_region_law (fail)
  go_wp2
  go_ret
  exact ⟨w.heap.size, G, c3, by rw [← Hl.out]; rfl, .inr (Nat.le_refl _), Hw3.out, by rw [← Hl.out]; exact hG1, hG2', Hc3s.out, by rw [← Hl.out]; exact Hc3t.out, Hu3.out⟩

end Go.Proofs.Ytkhejipcclpknaa
