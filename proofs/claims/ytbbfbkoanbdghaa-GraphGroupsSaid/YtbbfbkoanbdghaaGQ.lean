/- A row of ints that is written, and a queue of ints. No statement is proved here. -/
import Derived.Test.YtbbfbkoanbdghaaGP
import Derived.Test.YtbbfbkoanbdghaaGF
set_option linter.unusedVariables false
set_option linter.unusedSimpArgs false
namespace Go.Proofs.Ytbbfbkoanbdghaa
open Go.RowKit

theorem infoI : (Try.prog.info? 3).map (fun i => (i.zero, i.size, i.bytes)) = some (some (.int .i64 0), 1, 8) := by kernel_rfl
def IntRow (w : World) (d N : Nat) (D : Nat → Int) : Prop := ∃ cur : Array Value, w.heap[d]? = some (.cells cur 3 (0, 0)) ∧ cur.size = N ∧ ∀ i, i < N → cur[i]? = some (.int .i64 (D i))
section
variable {w w' : World} {d N B : Nat} {D : Nat → Int} {v : Value} {qs : List Nat}
theorem IntRow.cell (h : IntRow w d N D) {i : Nat} (hi : i < N) : w.cell? ⟨d, i, none⟩ = some (.int .i64 (D i)) := by
  obtain ⟨cur, h1, _, h3⟩ := h
  exact (blk_cell h1 i).trans (h3 i hi)
theorem IntRow.free (h : IntRow w d N D) (i : Nat) : w.frozen? ⟨d, i, none⟩ = false := by
  obtain ⟨cur, h1, _⟩ := h
  exact blk_free h1 i
theorem IntRow.lt (h : IntRow w d N D) : d < w.heap.size := by
  obtain ⟨cur, h1, _⟩ := h
  exact blk_lt h1
theorem IntRow.kept (h : IntRow w d N D) (hb : w'.heap[d]? = w.heap[d]?) : IntRow w' d N D := by
  obtain ⟨cur, h1, r⟩ := h
  exact ⟨cur, hb.trans h1, r⟩
theorem IntRow.set (h : IntRow w d N D) {i : Nat} (hi : i < N) (c : Int) : IntRow (w.setCell ⟨d, i, none⟩ (.int .i64 c)) d N (upd D i c) := by
  obtain ⟨cur, h1, h2, h3⟩ := h
  refine ⟨_, heap_setCell_same w d i _ _ _ h1, by rw [Array.size_setIfInBounds]; exact h2, fun j hj => ?_⟩
  rw [Array.getElem?_setIfInBounds]
  by_cases e : i = j
  · subst e
    rw [if_pos rfl, if_pos (by omega), upd_same]
  · rw [if_neg e, upd_other (fun e' => e e'.symm)]
    exact h3 j hj
theorem IntRow.ext {D' : Nat → Int} (h : IntRow w d N D) (he : ∀ i, i < N → D i = D' i) : IntRow w d N D' := by
  obtain ⟨cur, h1, h2, h3⟩ := h
  exact ⟨cur, h1, h2, fun i hi => by rw [← he i hi]; exact h3 i hi⟩
def QOwn (w : World) (d B : Nat) (v : Value) (qs : List Nat) : Prop := ∃ (b off cap : Nat) (cur : Array Value), v = .slice (some ⟨b, off, none⟩) qs.length cap ∧ b ≠ d ∧ B ≤ b ∧ w.heap[b]? = some (.cells cur 3 (0, 0)) ∧ qs.length ≤ cap ∧ cap ≤ maxLen ∧ off + cap ≤ cur.size ∧
  ∀ i (h : i < qs.length), cur[off + i]? = some (.int .i64 (qs[i] : Nat))
theorem QOwn.kept (h : QOwn w d B v qs) (hb : ∀ k, k ≠ d → B ≤ k → k < w.heap.size → w'.heap[k]? = w.heap[k]?) : QOwn w' d B v qs := by
  obtain ⟨b, off, cap, cur, h1, h2, h3, h4, r⟩ := h
  exact ⟨b, off, cap, cur, h1, h2, h3, (hb b h2 h3 (blk_lt h4)).trans h4, r⟩
theorem QOwn.below (h : QOwn w d B v qs) (hb : Below w.heap.size w w') : QOwn w' d B v qs := h.kept fun k _ _ hk => hb.block k hk
theorem q_append (h : QOwn w d B v qs) (hB : B ≤ w.heap.size) (hd : d < w.heap.size) (x : Nat) (ty : TypeId) (r : Nat) (hr : w.heap[r]? = some (.cells #[.int .i64 (x : Int)] 3 (0, 0))) (hl : qs.length ≤ 100000) :
    ∃ v' w', (Builtin.append_ #[38, 38] ty #[v, .slice (some ⟨r, 0, none⟩) 1 1]).run Try.prog w = .ok v' w' ∧ QOwn w' d B v' (qs ++ [x]) ∧ w'.heap[d]? = w.heap[d]? ∧ Below B w w' ∧ (∀ k, k ≠ d → k < w.heap.size → v.ownBlock ≠ some k → w'.heap[k]? = w.heap[k]?) := by
  obtain ⟨ti, hi, hz0, hz1, hz2⟩ := info_parts infoI
  obtain ⟨b, off, cap, cur, rfl, hbd, hBb, hb, hlc, hcm, hcs, hc⟩ := h
  have hsz : (Try.prog.info? 3).map (·.size) = some 1 := by rw [hi]; simp [hz1]
  have hnews : ∀ j u, ([Value.int .i64 (x : Int)] : List Value)[j]? = some u → w.cell? ((⟨r, 0, none⟩ : Addr).add j) = some u := fun j u hj => by
    rw [Addr.add_lit, Nat.zero_add, blk_cell hr]
    simpa using hj
  have hget : ∀ i (hi : i < (qs ++ [x]).length), (qs ++ [x])[i] = if h : i < qs.length then qs[i] else x := fun i hi => by
    by_cases h : i < qs.length
    · rw [dif_pos h, List.getElem_append_left h]
    · rw [dif_neg h]
      have : i = qs.length := by simp at hi; omega
      subst this
      simp
  by_cases hroom : qs.length + 1 ≤ cap
  · have hrun := run_append_rowN (P := Try.prog) w 38 ty 3 1 Try.underlying38 hsz b off qs.length cap cur hb ⟨r, 0, none⟩ 1 1 [.int .i64 (x : Int)] rfl hnews (by simp [Value.oneCell']) hroom (by simp; omega)
    refine ⟨_, _, hrun, ⟨b, off, cap, _, by simp, hbd, hBb, setRow_heap w b cur _ 3 _ hb, by simpa using hroom, hcm, ?_, ?_⟩, setRow_other w b d _ (fun e => hbd e.symm), ?_, ?_⟩
    · rw [spl_size _ _ _ (by simp; omega)]; exact hcs
    · intro i hi
      rw [hget i hi, ← Array.getElem?_toList, spl_list]
      by_cases h : i < qs.length
      · rw [dif_pos h, List.append_assoc, List.getElem?_append_left (by simp; omega), List.getElem?_take, if_pos (by omega), Array.getElem?_toList]
        exact hc i h
      · rw [dif_neg h]
        have : i = qs.length := by simp at hi; omega
        subst this
        have hl2 : (cur.toList.take (off + qs.length * 1)).length = off + qs.length := by simp; omega
        rw [List.append_assoc, List.getElem?_append_right (by omega), hl2]
        simp
    · exact ⟨rfl, rfl, rfl, by simp, fun k hk => setRow_other w b k _ (by omega)⟩
    · intro k _ _ hk
      exact setRow_other w b k _ (fun e => hk (by simp [Value.ownBlock, e]))
  · have hold : ∀ j u, (qs.map (fun (q : Nat) => Value.int .i64 (q : Int)))[j]? = some u → w.cell? ((⟨b, off, none⟩ : Addr).add j) = some u := fun j u hj => by
      rw [Addr.add_lit, blk_cell hb]
      obtain ⟨hj1, hj2⟩ := List.getElem?_eq_some_iff.1 hj
      rw [List.getElem_map] at hj2
      rw [hc j (by simpa using hj1), ← hj2]
    have hrun := run_append_grow (P := Try.prog) w 38 ty 3 ti (.int .i64 0) Try.underlying38 hi hz0 ⟨b, off, none⟩ qs.length cap (qs.map (fun (q : Nat) => Value.int .i64 (q : Int))) (by simp [hz1]) hold ⟨r, 0, none⟩ 1 1 [.int .i64 (x : Int)] (by simp [hz1]) hnews (by omega) (by omega)
      (growslice_fits (by omega) (by rw [hz2]; omega))
    have hge := grownCap_ge w (qs.length + 1) cap 3
    refine ⟨_, _, hrun, ⟨w.heap.size, 0, grownCap w (qs.length + 1) cap 3, _, by simp, by omega, hB, heap_alloc_new w.drew _, by simpa using hge, grownCap_le_maxLen w _ _ _ (by unfold maxLen; omega), ?_, ?_⟩, Below.heap_alloc w.drew _ d hd, ?_, ?_⟩
    · simp [size_zeroCells, Value.cells]
      omega
    · intro i hi
      rw [hget i hi, Nat.zero_add, ← Array.getElem?_toList]
      simp only [Array.toList_append, List.append_assoc]
      by_cases h : i < qs.length
      · rw [dif_pos h, List.getElem?_append_left (by simpa using h)]
        simp [h]
      · rw [dif_neg h]
        have : i = qs.length := by simp at hi; omega
        subst this
        rw [List.getElem?_append_right (by simp)]
        simp
    · exact ⟨rfl, rfl, rfl, by simp, fun k hk => Below.heap_alloc w.drew _ k (show k < w.heap.size by omega)⟩
    · intro k _ hk _
      exact Below.heap_alloc w.drew _ k hk
end
end Go.Proofs.Ytbbfbkoanbdghaa
