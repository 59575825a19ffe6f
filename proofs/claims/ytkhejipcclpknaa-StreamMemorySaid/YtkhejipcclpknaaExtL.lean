/- The library's slices.Replace, Delete and Insert on a slice of extents, for one element. No statement is proved here. -/
import Derived.Test.YtkhejipcclpknaaProg
import Derived.Test.YtkhejipcclpknaaRow
set_option linter.unusedVariables false
set_option linter.unusedSimpArgs false
namespace Go.Proofs.Ytkhejipcclpknaa
open Go.RowKit

theorem infoE : (Try.prog.info? 83).map (fun i => (i.zero, i.size, i.bytes)) = some (some (.agg #[.int .i64 0, .int .i64 0]), 2, 16) := by kernel_rfl
theorem sizeE : (Try.prog.info? 83).map (·.size) = some 2 := by kernel_rfl

theorem zeroOne : ∀ v ∈ (Value.agg #[.int .i64 0, .int .i64 0]).cells, v.oneCell' = true := by
  intro v hv
  simp [Value.cells] at hv
  subst hv
  rfl

/-- What the three leave: an own slice of extents with these elements; the old row or a new one. -/
def Owned (w : World) (g : Nat) (hs : List (Int × Int)) (e : Ending) (w' : World) : Prop :=
  ∃ g' cap' cur', e = .returned (.slice (some ⟨g', 0, none⟩) hs.length cap') ∧ (g' = g ∨ w.heap.size ≤ g') ∧ w'.heap[g']? = some (.cells cur' 83 (0, 0)) ∧
    hs.length ≤ cap' ∧ cap' ≤ maxLen ∧ cur'.size = cap' * 2 ∧ cur'.toList.take (hs.length * 2) = cells2 hs ∧ Upd (fun k => k = g) w w'


theorem owned_of {w : World} {g cap : Nat} {cur' : Array Value} {hs : List (Int × Int)} {e : Ending} {w' : World} {n : Nat}
    (hu : Upd (fun k => k = g) w w') (hg : w'.heap[g]? = some (.cells cur' 83 (0, 0))) (he : e = .returned (.slice (some ⟨g, 0, none⟩) n cap)) (hn : n = hs.length) (hnc : n ≤ cap) (hcm : cap ≤ maxLen)
    (hcs : cur'.size = cap * 2) (htk : cur'.toList.take (n * 2) = cells2 hs) : Owned w g hs e w' := by
  subst hn
  exact ⟨g, cap, cur', he, .inl rfl, hg, hnc, hcm, hcs, htk, hu⟩

theorem cells2_cut (cur : Array Value) (hs : List (Int × Int)) (htk : cur.toList.take (hs.length * 2) = cells2 hs) (i : Nat) (hi : i ≤ hs.length) : cur.toList.take (i * 2) = cells2 (hs.take i) := by
  rw [← cells2_take, ← htk, List.take_take, Nat.min_eq_left (by omega)]

/-- A row with new cells in its middle, as a list of pairs. -/
theorem spl_take (cur : Array Value) (o : Nat) (vs : List Value) (k : Nat) (h : o + vs.length ≤ cur.size) : (spl cur o vs).toList.take (o + vs.length + k) = cur.toList.take o ++ vs ++ (cur.toList.drop (o + vs.length)).take k := by
  rw [spl_list]
  have h1 : (cur.toList.take o ++ vs).length = o + vs.length := by simp; omega
  rw [← h1, List.take_length_add_append]

theorem cells_at {w : World} {g : Nat} {cur : Array Value} {t : TypeId} {f : Nat × Nat} (hg : w.heap[g]? = some (.cells cur t f)) (o n : Nat) (xs : List Value) (hx : (cur.toList.drop o).take n = xs) :
    ∀ j u, xs[j]? = some u → w.cell? ((⟨g, o, none⟩ : Addr).add j) = some u := by
  intro j u hj
  rw [Addr.add_lit, blk_cell hg]
  subst hx
  rw [List.getElem?_take] at hj
  split at hj
  · rw [List.getElem?_drop] at hj
    simpa using hj
  · cases hj

theorem cells2_mid (cur : Array Value) (hs : List (Int × Int)) (htk : cur.toList.take (hs.length * 2) = cells2 hs) (i : Nat) (hi : i ≤ hs.length) :
    (cur.toList.drop (i * 2)).take ((hs.length - i) * 2) = cells2 (hs.drop i) := by
  rw [← cells2_drop, ← htk, List.drop_take, Nat.sub_mul]

set_option maxHeartbeats 1000000 in
set_option maxRecDepth 100000 in
/-- Replace, the last element by nothing. -/
theorem replace_last0 (w : World) (g cap : Nat) (cur : Array Value) (hs : List (Int × Int)) (i : Nat) (hn : hs.length = i + 1)
    (hg : w.heap[g]? = some (.cells cur 83 (0, 0))) (hnc : hs.length ≤ cap) (hcm : cap ≤ maxLen) (hcs : cur.size = cap * 2) (htk : cur.toList.take (hs.length * 2) = cells2 hs) :
    Calls Try.prog 66 #[.slice (some ⟨g, 0, none⟩) (i + 1) cap, .int .i64 i, .int .i64 ((i : Int) + 1), .slice none 0 0] w (Owned w g (hs.take i)) := by
  obtain ⟨ti, hi, hz0, hz1, hz2⟩ := info_parts infoE
  have hcm' := hcm
  unfold maxLen at hcm
  have h2 := cells2_cut cur hs htk i (by omega)
  have hlen : i = (hs.take i).length := by simp; omega
  rw [hn] at hnc
  clear htk
  have hne : ¬ ((i : Int) = (i : Int) + 1) := by omega
  have hci : ¬ (cap = i) := by omega
  obtain ⟨zs, hzl, hclr⟩ := run_clear_rowN (P := Try.prog) w 79 0 83 ti _ g (i * 2) 1 (cap - i) cur 83 Try.underlying79 hi hz0 zeroOne hg (by simp [Value.cells]; omega)
  have hzl' : zs.length = 2 := by simpa [Value.cells] using hzl
  have Hl := hid hlen
  have Hz := hid hzl'
  clear hlen hzl hzl' hn
  go_enter Try.func66, Try.ntmps66
  go_wp2
  go_ret
  refine owned_of (Upd.setRow (S := fun k => k = g) (Upd.refl _ _) g rfl _) (setRow_heap _ _ _ _ _ _ hg) rfl Hl.out (by omega) hcm' (by rw [spl_size _ _ _ (by rw [Hz.out]; omega)]; exact hcs) ?_
  rw [spl_list, List.append_assoc, List.take_append_of_le_length (by simp; omega), List.take_take, Nat.min_self]
  exact h2

set_option maxHeartbeats 1000000 in
set_option maxRecDepth 100000 in
/-- Replace, an inner element by nothing. -/
theorem replace_in0 (w : World) (g cap : Nat) (cur : Array Value) (hs : List (Int × Int)) (i k : Nat) (hn : hs.length = i + 1 + k) (hk : 0 < k)
    (hg : w.heap[g]? = some (.cells cur 83 (0, 0))) (hnc : hs.length ≤ cap) (hcm : cap ≤ maxLen) (hcs : cur.size = cap * 2) (htk : cur.toList.take (hs.length * 2) = cells2 hs) :
    Calls Try.prog 66 #[.slice (some ⟨g, 0, none⟩) (i + 1 + k) cap, .int .i64 i, .int .i64 ((i : Int) + 1), .slice none 0 0] w (Owned w g (hs.take i ++ hs.drop (i + 1))) := by
  obtain ⟨ti, hi, hz0, hz1, hz2⟩ := info_parts infoE
  have hcm' := hcm
  unfold maxLen at hcm
  have h2 := cells2_cut cur hs htk i (by omega)
  have h3 := cells2_mid cur hs htk (i + 1) (by omega)
  have hlen : i + k = (hs.take i ++ hs.drop (i + 1)).length := by simp; omega
  rw [hn] at hnc h3
  clear htk
  have hne : ¬ ((i : Int) = (i : Int) + 1) := by omega
  have hne2 : ¬ ((i : Int) + 1 = (i : Int) + 1 + (k : Int)) := by omega
  have hci : ¬ (cap = i) := by omega
  have hci1 : ¬ (cap = i + 1) := by omega
  have hci2 : ¬ (cap = i + k) := by omega
  have hdl : (cells2 (hs.drop (i + 1))).length = k * 2 := by rw [cells2_length]; simp [hn]
  have hcp : ∀ (W : World), W.heap[g]? = some (.cells cur 83 (0, 0)) → ∀ ty dc sc, (Builtin.copy_ #[79, 79] ty #[.slice (some ⟨g, i * 2, none⟩) k dc, .slice (some ⟨g, (i + 1) * 2, none⟩) k sc]).run Try.prog W =
      .ok (goInt ((min k k : Nat) : Int)) (W.setRow g (spl cur (i * 2) (cells2 (hs.drop (i + 1))))) := fun W hW ty dc sc =>
    run_copy_rowN W _ _ ty 83 2 g (i * 2) k dc ⟨g, (i + 1) * 2, none⟩ k sc cur 83 (cells2 (hs.drop (i + 1)))
      Try.underlying79 sizeE hW (by rw [hdl, Nat.min_self]) (cells_at hW _ _ _ h3) (by rw [hdl]; omega) (cells2_oneCell _)
  have hcp0 := fun (W : World) ty dc => run_copy_zero (P := Try.prog) W 79 79 ty 83 (some ⟨g, i * 2, none⟩) none k dc 0 0 Try.underlying79 (by rw [sizeE]; rfl) (by omega)
  have hfin : (spl cur (i * 2) (cells2 (hs.drop (i + 1)))).toList.take ((i + k) * 2) = cells2 (hs.take i ++ hs.drop (i + 1)) := by
    rw [cells2_append, ← h2]
    have := spl_take cur (i * 2) (cells2 (hs.drop (i + 1))) 0 (by rw [hdl]; omega)
    rw [hdl] at this
    rw [show (i + k) * 2 = i * 2 + k * 2 + 0 by omega, this, List.take_zero, List.append_nil]
  have hsz : (spl cur (i * 2) (cells2 (hs.drop (i + 1)))).size = cap * 2 := by rw [spl_size _ _ _ (by rw [hdl]; omega)]; exact hcs
  obtain ⟨c1, hc1⟩ : ∃ c1, c1 = spl cur (i * 2) (cells2 (hs.drop (i + 1))) := ⟨_, rfl⟩
  rw [← hc1] at hcp hfin hsz
  clear hc1
  have hwi : IntKind.i64.wrap (i : Int) = (i : Int) := by rw [IntKind.wrap_i64]; omega
  have hwi1 : IntKind.i64.wrap ((i : Int) + 1) = (i : Int) + 1 := by rw [IntKind.wrap_i64]; omega
  have hti1 : ((i : Int) + 1).toNat = i + 1 := by omega
  have hb1 : (i : Int) ≤ (i : Int) + (k : Int) := by omega
  have hsub : i + 1 + k - (i + k) = 1 := by omega
  have hb2 : (i : Int) + 1 ≤ (i : Int) + 1 + (k : Int) := by omega
  have hb3 : (0 : Int) ≤ (i : Int) + 1 := by omega
  have Hf := hid hfin
  have Hs := hid hsz
  have Hl := hid hlen
  have Hn := hid hn
  clear hfin hsz hlen hn h2 h3 hdl
  go_enter Try.func66, Try.ntmps66
  go_wp2_with fail
  go_quiet (fail)
  go_wp2_with (refine wpList_copy_run _ rfl (.tmp 95) (.tmp 96) 79 79 rfl _ _ rfl rfl (hcp0 _ _ _) ?_)
  go_region_law (refine step_copy_run rfl _ _ 79 79 rfl _ _ (by simp [Act.eval, Act.put]) (by simp [Act.eval, Act.put]) (hcp _ hg _ _ _) ?_)
  have hg1 := setRow_heap (w.drewN (nq + 1)) g cur c1 _ _ hg
  go_wp2_with (refine wpList_clear_row _ rfl (.tmp 110) 79 rfl 83 ti _ g ((i + k) * 2) 1 (cap - (i + k)) c1 83 _ rfl ?_ Try.underlying79 hi hz0 zeroOne hg1 ?_ ?_)
  · simp [Act.eval, hsub]
  · rw [Hs.out]; simp [Value.cells]; omega
  intro zs hz
  have hz' : zs.length = 2 := by simpa [Value.cells] using hz
  have Hz := hid hz'
  clear hz hz' hcp hcp0
  go_wp2
  go_ret
  refine owned_of ((Upd.setRow (S := fun k => k = g) (Upd.refl _ _ |>.drewN _) g rfl _).setRow g rfl _) (setRow_heap _ _ _ _ _ _ hg1) rfl Hl.out (by omega) hcm' (by rw [spl_size _ _ _ (by rw [Hz.out, Hs.out]; omega)]; exact Hs.out) ?_
  have h9 := Hs.out
  rw [spl_list, List.append_assoc, List.take_append_of_le_length (by simp; omega), List.take_take, Nat.min_self]
  exact Hf.out
end Go.Proofs.Ytkhejipcclpknaa
