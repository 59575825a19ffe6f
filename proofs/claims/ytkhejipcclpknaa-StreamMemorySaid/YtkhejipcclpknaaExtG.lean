/- The library's slices.Replace on a slice of extents where the row is too small. No statement is proved here. -/
import Derived.Test.YtkhejipcclpknaaExtD
set_option linter.unusedVariables false
set_option linter.unusedSimpArgs false
namespace Go.Proofs.Ytkhejipcclpknaa
open Go.RowKit

/-- What a law on append leaves, as 'Owned' says it. -/
theorem owned_own {w w' : World} {g : Nat} {hs : List (Int × Int)} {v : Value} {e : Ending} (he : e = .returned v) (h0 : 0 < hs.length)
    (hown : w'.ownsRow 0 83 2 v hs.length (cells2 hs)) (hu : Upd (fun k => k = g) w w') (hnew : ∀ k, v.ownBlock = some k → k = g ∨ w.heap.size ≤ k) : Owned w g hs e w' := by
  rcases hown.2 with ⟨_, h⟩ | ⟨g', cap, cur, rfl, _, hg, h1, h2, h3, h4⟩
  · omega
  · exact ⟨g', cap, cur, he, hnew g' rfl, hg, h1, h2, h3, h4, hu⟩

theorem cut_own {w : World} {g cap : Nat} {cur : Array Value} {hs : List (Int × Int)} (hg : w.heap[g]? = some (.cells cur 83 (0, 0))) (hnc : hs.length ≤ cap) (hcm : cap ≤ maxLen) (hcs : cur.size = cap * 2) (htk : cur.toList.take (hs.length * 2) = cells2 hs) (i : Nat) (hi : i ≤ hs.length) :
    w.ownsRow 0 83 2 (.slice (some ⟨g, 0, none⟩) i cap) i (cells2 (hs.take i)) :=
  ⟨by rw [cells2_length]; simp; omega, .inr ⟨g, cap, cur, rfl, Nat.zero_le _, hg, by omega, hcm, hcs, cells2_cut cur hs htk i hi⟩⟩

/-- An append of extents that lie in another row. -/
theorem run_append_E (w : World) (ty : TypeId) (v : Value) (xs ys : List (Int × Int)) (hown : w.ownsRow 0 83 2 v xs.length (cells2 xs)) (r ro rc : Nat) (hys : ∀ j u, (cells2 ys)[j]? = some u → w.cell? ((⟨r, ro, none⟩ : Addr).add j) = some u) (h63 : xs.length + ys.length ≤ 1000000) :
    ∃ v' w', (Builtin.append_ #[79, 79] ty #[v, .slice (some ⟨r, ro, none⟩) ys.length rc]).run Try.prog w = .ok v' w' ∧ w'.ownsRow 0 83 2 v' (xs ++ ys).length (cells2 (xs ++ ys)) ∧ w.grownBy w' v.ownBlock ∧
      (v'.ownBlock = v.ownBlock ∨ v'.ownBlock = some w.heap.size) := by
  obtain ⟨ti, hi, hz0, hz1, hz2⟩ := info_parts infoE
  rw [cells2_append, List.length_append]
  exact run_append_own2 w 0 79 ty 83 ti _ 2 16 Try.underlying79 hi hz0 hz1 hz2 rfl v _ _ hown ⟨r, ro, none⟩ ys.length rc (cells2 ys) (cells2_length ys) hys (cells2_oneCell _) (by unfold maxLen; omega) (by omega) (Nat.zero_le _)

set_option maxHeartbeats 1000000 in
set_option maxRecDepth 100000 in
theorem replace_last2 (w : World) (g cap r rc : Nat) (cur rcur : Array Value) (hs ys : List (Int × Int)) (i : Nat) (hn : hs.length = i + 1)
    (hg : w.heap[g]? = some (.cells cur 83 (0, 0))) (hnc : hs.length ≤ cap) (hcm : cap ≤ maxLen) (hcs : cur.size = cap * 2) (htk : cur.toList.take (hs.length * 2) = cells2 hs)
    (hrg : r ≠ g) (hr : w.heap[r]? = some (.cells rcur 83 (0, 0))) (hry : rcur.toList.take (ys.length * 2) = cells2 ys) (hy : ys.length = 2) (hsm : hs.length ≤ 10000) :
    Calls Try.prog 66 #[.slice (some ⟨g, 0, none⟩) (i + 1) cap, .int .i64 i, .int .i64 ((i : Int) + 1), .slice (some ⟨r, 0, none⟩) 2 rc] w (Owned w g (hs.take i ++ ys)) := by
  by_cases hroom : i + 2 ≤ cap
  · exact replace_last2r w g cap r rc cur rcur hs ys i hn hg hnc hcm hcs htk hrg hr hry hy hroom
  obtain ⟨ti, hi, hz0, hz1, hz2⟩ := info_parts infoE
  have hcm' := hcm
  unfold maxLen at hcm
  have h2 := cells2_cut cur hs htk i (by omega)
  have hyl : (cells2 ys).length = 2 * 2 := by rw [cells2_length, hy]
  have hil : (cells2 (hs.take i)).length = i * 2 := by rw [cells2_length]; simp; omega
  rw [hn] at hnc
  rw [hy] at hry
  have hne : ¬ ((i : Int) = (i : Int) + 1) := by omega
  have happ := fun ty => run_append_grow (P := Try.prog) w 79 ty 83 ti _ Try.underlying79 hi hz0 ⟨g, 0, none⟩ i cap (cells2 (hs.take i)) (by rw [hz1]; exact hil) (cells_at hg 0 (i * 2) _ (by rw [List.drop_zero]; exact h2)) ⟨r, 0, none⟩ 2 rc (cells2 ys) (by rw [hz1]; exact hyl)
    (cells_at hr 0 (2 * 2) _ (by rw [List.drop_zero]; exact hry)) (by omega) (by omega) (by rw [hz2]; exact growslice_fits (by omega) (by omega))
  have hge := grownCap_ge w (i + 2) cap 83
  have hle := grownCap_le_maxLen w (i + 2) cap 83 (by unfold maxLen; omega)
  generalize grownCap w (i + 2) cap 83 = G at happ hge hle
  obtain ⟨c1, hc1⟩ : ∃ c1, c1 = (cells2 (hs.take i)).toArray ++ (cells2 ys).toArray ++ Builtin.zeroCells (Value.agg #[.int .i64 0, .int .i64 0]).cells (G - (i + 2)) := ⟨_, rfl⟩
  rw [← hc1] at happ
  have hc1s : c1.size = G * 2 := by rw [hc1]; simp [size_zeroCells, hil, hyl, Value.cells]; omega
  have hc1t : c1.toList.take ((i + 2) * 2) = cells2 (hs.take i ++ ys) := by
    rw [hc1, cells2_append]
    have e : (cells2 (hs.take i) ++ cells2 ys).length = (i + 2) * 2 := by rw [List.length_append, hil, hyl]; omega
    simp only [Array.toList_append, List.append_assoc]
    rw [← List.append_assoc, ← e]
    exact List.take_left
  have hlen : i + 2 = (hs.take i ++ ys).length := by simp; omega
  have Hf := hid hc1t
  have Hs := hid hc1s
  have Hl := hid hlen
  clear hc1s hc1t hc1 hlen hn h2 hil hyl hy htk hry hcs
  unfold maxLen at hle
  go_enter Try.func66, Try.ntmps66
  go_wp2_with (refine wpList_append_run _ rfl (.tmp 32) (.tmp 33) 79 79 rfl _ _ rfl rfl (happ _) ?_)
  go_ret
  refine ⟨w.heap.size, G, c1, by rw [← Hl.out]; rfl, .inr (Nat.le_refl _), heap_alloc_new w.drew _, by rw [← Hl.out]; omega, by unfold maxLen; omega, Hs.out, by rw [← Hl.out]; exact Hf.out, ((Upd.refl _ _).drew).alloc _⟩

end Go.Proofs.Ytkhejipcclpknaa
