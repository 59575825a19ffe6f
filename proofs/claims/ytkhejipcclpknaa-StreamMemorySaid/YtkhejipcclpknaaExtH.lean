/- The library's slices.Replace on a slice of extents: an inner element by two, where the row is too small. No statement is proved here. -/
import Derived.Test.YtkhejipcclpknaaExtG
set_option linter.unusedVariables false
set_option linter.unusedSimpArgs false
namespace Go.Proofs.Ytkhejipcclpknaa
open Go.RowKit

theorem zeroOnes (n : Nat) : ∀ v ∈ (Builtin.zeroCells (Value.agg #[.int .i64 0, .int .i64 0]).cells n).toList, v.oneCell' = true := by
  intro v hv
  simp only [Builtin.zeroCells, Array.toList_map, List.mem_map] at hv
  obtain ⟨k, hk, rfl⟩ := hv
  have hlt : k % 2 < 2 := Nat.mod_lt _ (by decide)
  have e : (Value.agg #[Value.int .i64 0, Value.int .i64 0]).cells = #[.int .i64 0, .int .i64 0] := rfl
  rw [e]
  show (#[Value.int .i64 0, Value.int .i64 0][k % 2]!).oneCell' = true
  have : k % 2 = 0 ∨ k % 2 = 1 := by omega
  rcases this with h | h <;> rw [h] <;> rfl

set_option maxHeartbeats 1000000 in
set_option maxRecDepth 100000 in
theorem replace_in2 (w : World) (g cap r rc : Nat) (cur rcur : Array Value) (hs ys : List (Int × Int)) (i k : Nat) (hn : hs.length = i + 1 + k)
    (hg : w.heap[g]? = some (.cells cur 83 (0, 0))) (hnc : hs.length ≤ cap) (hcm : cap ≤ maxLen) (hcs : cur.size = cap * 2) (htk : cur.toList.take (hs.length * 2) = cells2 hs)
    (hrg : r ≠ g) (hr : w.heap[r]? = some (.cells rcur 83 (0, 0))) (hry : rcur.toList.take (ys.length * 2) = cells2 ys) (hk : 0 < k) (hy : ys.length = 2) (hsm : hs.length ≤ 10000) :
    Calls Try.prog 66 #[.slice (some ⟨g, 0, none⟩) (i + 1 + k) cap, .int .i64 i, .int .i64 ((i : Int) + 1), .slice (some ⟨r, 0, none⟩) 2 rc] w (Owned w g (hs.take i ++ ys ++ hs.drop (i + 1))) := by
  by_cases hroom : i + 2 + k ≤ cap
  · exact replace_in2r w g cap r rc cur rcur hs ys i k hn hg hnc hcm hcs htk hrg hr hry hk hy hroom
  obtain ⟨ti, hi, hz0, hz1, hz2⟩ := info_parts infoE
  have hcm' := hcm
  unfold maxLen at hcm
  have h2 := cells2_cut cur hs htk i (by omega)
  have h3 := cells2_mid cur hs htk (i + 1) (by omega)
  have hlen : i + 2 + k = (hs.take i ++ ys ++ hs.drop (i + 1)).length := by simp; omega
  have hyl : (cells2 ys).length = 2 * 2 := by rw [cells2_length, hy]
  have hil : (cells2 (hs.take i)).length = i * 2 := by rw [cells2_length]; simp; omega
  have hdl : (cells2 (hs.drop (i + 1))).length = k * 2 := by rw [cells2_length]; simp [hn]
  rw [hn] at hnc h3
  rw [hy] at hry
  rw [show i + 1 + k - (i + 1) = k by omega] at h3
  have hne : ¬ ((i : Int) = (i : Int) + 1) := by omega
  have hne2 : ¬ ((i : Int) + 1 = (i : Int) + 1 + (k : Int)) := by omega
  have hci : ¬ (cap = i) := by omega
  have hci1 : ¬ (cap = i + 1) := by omega
  have hgt : (cap : Int) < (i : Int) + 2 + (k : Int) := by omega
  have happ : ∀ (W : World), W.heap = w.heap → ∀ ty, ∃ G c1, (Builtin.append_ #[79, 3] ty #[.slice (some ⟨g, 0, none⟩) i cap, .int .i64 ((i : Int) + 2 + (k : Int) - (i : Int))]).run Try.prog W =
      .ok (.slice (some ⟨w.heap.size, 0, none⟩) (i + 2 + k) G) (W.drew.alloc (.cells c1 83)) ∧ i + 2 + k ≤ G ∧ G ≤ maxLen ∧ c1.size = G * 2 ∧ c1.toList.take (i * 2) = cells2 (hs.take i) := fun W hW ty => by
    have hold := run_firstCells_some (P := Try.prog) W.drew ti.size i ⟨g, 0, none⟩ i cap (cells2 (hs.take i)) (by rw [hz1]; exact hil) (cells_at (w := W.drew) (by rw [show W.drew.heap = w.heap from hW]; exact hg) 0 (i * 2) _ (by rw [List.drop_zero]; exact h2))
    have h := Lib.run_append_grow_zeros (P := Try.prog) W 79 3 ty 83 ti _ .i64 .i64 Try.underlying79 Try.underlying3 hi hz0 (some ⟨g, 0, none⟩) i cap (cells2 (hs.take i)) hold (2 + k) (by omega) (by omega) (by omega) (by omega) (by rw [hz2]; omega) (by rw [hz2]; exact growslice_fits (by omega) (by omega))
    have hge := grownCap_ge W (i + (2 + k)) cap 83
    have hle := grownCap_le_maxLen W (i + (2 + k)) cap 83 (by unfold maxLen; omega)
    generalize grownCap W (i + (2 + k)) cap 83 = G at h hge hle
    rw [show (((2 + k : Nat) : Int)) = (i : Int) + 2 + (k : Int) - (i : Int) by omega, show i + (2 + k) = i + 2 + k by omega, hW] at h
    refine ⟨G, _, h, by omega, hle, ?_, ?_⟩
    · simp [size_zeroCells, hil, Value.cells]; omega
    · simp only [Array.toList_append, List.append_assoc]
      rw [← hil]
      exact List.take_left
  have hik : i + k ≤ 10000 := by omega
  generalize hres : hs.take i ++ ys ++ hs.drop (i + 1) = res at hlen ⊢
  have Hres := hid hres
  have Hl := hid hlen
  have H2 := hid h2
  have H3 := hid h3
  have Hyl := hid hyl
  have Hdl := hid hdl
  have Hry := hid hry
  clear hlen h2 h3 hyl hdl hry hres hil htk hn
  have hwi : IntKind.i64.wrap (i : Int) = (i : Int) := by rw [IntKind.wrap_i64]; omega
  have hwi1 : IntKind.i64.wrap ((i : Int) + 1) = (i : Int) + 1 := by rw [IntKind.wrap_i64]; omega
  have hwi2 : IntKind.i64.wrap ((i : Int) + 2) = (i : Int) + 2 := by rw [IntKind.wrap_i64]; omega
  have hti1 : ((i : Int) + 1).toNat = i + 1 := by omega
  have hti2 : ((i : Int) + 2).toNat = i + 2 := by omega
  have hb2 : (i : Int) + 1 ≤ (i : Int) + 1 + (k : Int) := by omega
  have hb3 : (0 : Int) ≤ (i : Int) + 1 := by omega
  have hb4 : (0 : Int) ≤ (i : Int) + 2 := by omega
  have hb5 : (i : Int) + 2 ≤ (i : Int) + 2 + (k : Int) := by omega
  have hsub : i + 2 + k - i = 2 + k := by omega
  go_enter Try.func66, Try.ntmps66
  go_wp2_with fail
  go_quiet (fail)
  obtain ⟨G, c1, hrun, hG1, hG2, hc1s, hc1t⟩ := happ (w.drewN nq) rfl 79
  have hG2' := hG2
  unfold maxLen at hG2
  have hGi : ¬ (G = i) := by omega
  have hGi2 : ¬ (G = i + 2) := by omega
  have Hc1s := hid hc1s
  have Hc1t := hid hc1t
  clear hc1s hc1t happ
  have hlt := blk_lt hg
  have hltr := blk_lt hr
  have hw1 : ((w.drewN nq).drew.alloc (.cells c1 83)).heap[w.heap.size]? = some (.cells c1 83 (0, 0)) := heap_alloc_new (w.drewN nq).drew _
  have hw1g : ((w.drewN nq).drew.alloc (.cells c1 83)).heap[g]? = some (.cells cur 83 (0, 0)) := (Below.heap_alloc (w.drewN nq).drew _ g hlt).trans hg
  have hw1r : ((w.drewN nq).drew.alloc (.cells c1 83)).heap[r]? = some (.cells rcur 83 (0, 0)) := (Below.heap_alloc (w.drewN nq).drew _ r hltr).trans hr
  have hu1 : Upd (fun k => k = g) w ((w.drewN nq).drew.alloc (.cells c1 83)) := (((Upd.refl _ _).drewN nq).drew).alloc _
  obtain ⟨W1, hW1⟩ : ∃ W1, W1 = (w.drewN nq).drew.alloc (.cells c1 83) := ⟨_, rfl⟩
  rw [← hW1] at hrun hw1 hw1g hw1r hu1
  clear hW1
  have hgn : g ≠ w.heap.size := by omega
  have hcp1 : ∀ ty, (Builtin.copy_ #[79, 79] ty #[.slice (some ⟨w.heap.size, i * 2, none⟩) (2 + k) (G - i), .slice (some ⟨r, 0, none⟩) 2 rc]).run Try.prog W1 =
      .ok (goInt ((min 2 (2 + k) : Nat) : Int)) (W1.setRow w.heap.size (spl c1 (i * 2) (cells2 ys))) := fun ty =>
    run_copy_rowN W1 _ _ ty 83 2 w.heap.size (i * 2) (2 + k) (G - i) ⟨r, 0, none⟩ 2 rc c1 83 (cells2 ys)
      Try.underlying79 sizeE hw1 (by rw [Hyl.out]; omega) (cells_at hw1r 0 (2 * 2) _ (by rw [List.drop_zero]; exact Hry.out)) (by rw [Hyl.out, Hc1s.out]; omega) (cells2_oneCell _)
  obtain ⟨c2, hc2⟩ : ∃ c2, c2 = spl c1 (i * 2) (cells2 ys) := ⟨_, rfl⟩
  have hyl := Hyl.out
  have hc1s := Hc1s.out
  have Hc2s : Hid (c2.size = G * 2) := hid (by rw [hc2, spl_size _ _ _ (by omega)]; exact hc1s)
  have Hc2t : Hid (c2.toList.take ((i + 2) * 2) = cells2 (hs.take i ++ ys)) := hid (by
    rw [hc2, cells2_append, ← Hc1t.out]
    have := spl_take c1 (i * 2) (cells2 ys) 0 (by omega)
    rw [hyl] at this
    rw [show (i + 2) * 2 = i * 2 + 2 * 2 + 0 by omega, this, List.take_zero, List.append_nil])
  rw [← hc2] at hcp1
  clear hc2 hyl hc1s
  have hw2 := setRow_heap W1 w.heap.size c1 c2 _ _ hw1
  have hw2g : ((W1.setRow w.heap.size c2).drew).heap[g]? = some (.cells cur 83 (0, 0)) := (setRow_other W1 w.heap.size g c2 hgn).trans hw1g
  have hw2d : ((W1.setRow w.heap.size c2).drew).heap[w.heap.size]? = some (.cells c2 83 (0, 0)) := hw2
  have hu2 : Upd (fun k => k = g) w ((W1.setRow w.heap.size c2).drew) := by
    refine Upd.drew ?_
    have hsz := hu1.size
    exact ⟨hu1.os, hu1.tape, hu1.output, by simpa using hsz, fun j hj hs => (setRow_other W1 w.heap.size j c2 (by omega)).trans (hu1.block j hj hs)⟩
  have hcp2 : ∀ ty dc sc, (Builtin.copy_ #[79, 79] ty #[.slice (some ⟨w.heap.size, (i + 2) * 2, none⟩) k dc, .slice (some ⟨g, (i + 1) * 2, none⟩) k sc]).run Try.prog ((W1.setRow w.heap.size c2).drew) =
      .ok (goInt ((min k k : Nat) : Int)) (((W1.setRow w.heap.size c2).drew).setRow w.heap.size (spl c2 ((i + 2) * 2) (cells2 (hs.drop (i + 1))))) := fun ty dc sc =>
    run_copy_rowN _ _ _ ty 83 2 w.heap.size ((i + 2) * 2) k dc ⟨g, (i + 1) * 2, none⟩ k sc c2 83 (cells2 (hs.drop (i + 1)))
      Try.underlying79 sizeE hw2d (by rw [Hdl.out, Nat.min_self]) (cells_at hw2g _ _ _ H3.out) (by rw [Hdl.out, Hc2s.out]; omega) (cells2_oneCell _)
  obtain ⟨c3, hc3⟩ : ∃ c3, c3 = spl c2 ((i + 2) * 2) (cells2 (hs.drop (i + 1))) := ⟨_, rfl⟩
  have hdl := Hdl.out
  have hc2s := Hc2s.out
  have Hc3s : Hid (c3.size = G * 2) := hid (by rw [hc3, spl_size _ _ _ (by omega)]; exact hc2s)
  have Hc3t : Hid (c3.toList.take ((i + 2 + k) * 2) = cells2 res) := hid (by
    rw [← Hres.out, cells2_append, ← Hc2t.out, hc3]
    have := spl_take c2 ((i + 2) * 2) (cells2 (hs.drop (i + 1))) 0 (by omega)
    rw [hdl] at this
    rw [show (i + 2 + k) * 2 = (i + 2) * 2 + k * 2 + 0 by omega, this, List.take_zero, List.append_nil])
  rw [← hc3] at hcp2
  clear hc3 hdl hc2s
  have hw3 := setRow_heap _ w.heap.size c2 c3 _ _ hw2d
  have hu3 : Upd (fun k => k = g) w (((W1.setRow w.heap.size c2).drew).setRow w.heap.size c3) := by
    have hsz := hu2.size
    exact ⟨hu2.os, hu2.tape, hu2.output, by simpa using hsz, fun j hj hs => (setRow_other _ w.heap.size j c3 (by omega)).trans (hu2.block j hj hs)⟩
  have Hu3 := hid hu3
  have Hw3 := hid hw3
  clear hu1 hu2 hu3 hw1 hw1g hw1r hw2 hw2g hw2d hw3 hgn
  go_wp2_with (first | (at_builtin; refine wpList_append_run _ rfl (.tmp 63) (.tmp 66) 79 3 rfl _ _ rfl rfl hrun ?_) | (refine wpList_copy_run _ rfl (.tmp 70) (.tmp 71) 79 79 rfl _ _ rfl rfl (hcp1 _) ?_))
  clear hrun hcp1
  go_region_law (refine step_copy_run rfl _ _ 79 79 rfl _ _ (by simp [Act.eval, Act.put]) (by simp [Act.eval, Act.put]) (hcp2 _ _ _) ?_)
  go_wp2
  go_ret
  exact ⟨w.heap.size, G, c3, by rw [← Hl.out]; rfl, .inr (Nat.le_refl _), Hw3.out, by rw [← Hl.out]; exact hG1, hG2', Hc3s.out, by rw [← Hl.out]; exact Hc3t.out, Hu3.out⟩

end Go.Proofs.Ytkhejipcclpknaa
