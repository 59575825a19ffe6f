/- A byte of an own row is written. No statement is proved here. -/
import Derived.Test.YtkhejipcclpknaaUM
set_option linter.unusedVariables false
set_option linter.unusedSimpArgs false
namespace Go.Proofs.Ytkhejipcclpknaa
open Go.RowKit

theorem row_set {w : World} {B g n c : Nat} {l : List Int} (h : w.ownsRow B 5 1 (.slice (some ⟨g, 0, none⟩) n c) n (cellsB l)) (hn : n = l.length) {i : Nat} (hi : i < n) (x : Int) :
    (w.setCell ⟨g, i, none⟩ (.int .u8 x)).ownsRow B 5 1 (.slice (some ⟨g, 0, none⟩) n c) n (cellsB (l.set i x)) := by
  rcases h.2 with ⟨hh, _⟩ | ⟨g', c', cur, hh, hb, hg, hle, hm, hs, ht⟩
  · cases hh
  cases hh
  refine ⟨by rw [cellsB_length, List.length_set, ← hn, Nat.mul_one], .inr ⟨g, c, cur.setIfInBounds i (.int .u8 x), rfl, hb, heap_setCell_same w g i _ _ _ hg, hle, hm, by rw [Array.size_setIfInBounds]; exact hs, ?_⟩⟩
  rw [Array.toList_setIfInBounds, Nat.mul_one]
  rw [Nat.mul_one] at ht
  rw [List.take_set, ht]
  unfold cellsB
  rw [List.map_set]
/-- Every byte of a row is marked. -/
theorem set_all {l : List Int} {x : Int} {k : Nat} (hk : k < l.length) : ((List.replicate k x) ++ l.drop k).set k x = List.replicate (k + 1) x ++ l.drop (k + 1) := by
  apply List.ext_getElem?
  intro j
  rw [List.getElem?_set]
  simp only [List.length_append, List.length_replicate, List.length_drop]
  by_cases h1 : k = j
  · subst h1
    rw [if_pos rfl, if_pos (by omega), List.getElem?_append_left (by simp)]
    simp
  · rw [if_neg h1]
    by_cases h2 : j < k
    · rw [List.getElem?_append_left (by simp; omega), List.getElem?_append_left (by simp; omega)]
      simp [h2, show j < k + 1 by omega]
    · rw [List.getElem?_append_right (by simp; omega), List.getElem?_append_right (by simp; omega)]
      simp only [List.length_replicate, List.getElem?_drop]
      congr 1
      omega
/-- One byte is appended to a row; bytes that are the row's beginning, or lie elsewhere, stay. -/
theorem app_prefix {w : World} {B : Nat} {a : Option Addr} {n c : Nat} {out ex : List Int} (h : w.ownsRow B 5 1 (.slice a n c) n (cellsB (out ++ ex))) (hn : n = (out ++ ex).length) (hB : B ≤ w.heap.size) {g0 : Nat} (h0 : BytesIn w (some ⟨g0, 0, none⟩) out) (sa : Option Addr) (k cs : Nat) (ls : List Int) (hk : ls.length = k) (hb : BytesIn w sa ls) (hl : n + k ≤ 100000000) :
    ∃ a' c' w1, (Builtin.append_ #[22, 22] 22 #[.slice a n c, .slice sa k cs]).run Try.prog w = .ok (.slice a' (n + k) c') w1 ∧ w1.ownsRow B 5 1 (.slice a' (n + k) c') (n + k) (cellsB (out ++ (ex ++ ls))) ∧ w.grownBy w1 (Value.slice a n c).ownBlock ∧ ((Value.slice a' (n + k) c').ownBlock = (Value.slice a n c).ownBlock ∨ (Value.slice a' (n + k) c').ownBlock = some w.heap.size) ∧ BytesIn w1 (some ⟨g0, 0, none⟩) out := by
  obtain ⟨ti, hi, hz0, hz1, hz2⟩ := info_parts infoB
  by_cases hne : ls = []
  · subst hne
    simp only [List.length_nil] at hk
    subst hk
    exact ⟨a, c, w, run_append_zero w 22 22 5 1 Try.underlying22 sizeB a sa n c cs (by
      rcases h.2 with ⟨hh, h1⟩ | ⟨b, cap, cur, hh, _, _, hle, _⟩
      · omega
      · cases hh
        exact hle), by rw [List.append_nil]; exact h, ⟨rfl, rfl, rfl, Nat.le_refl _, fun _ _ _ => rfl⟩, .inl rfl, h0⟩
  · obtain ⟨q, off, rfl, hq, hby⟩ := hb hne
    obtain ⟨v', w1, k1, k2, k3, k4⟩ := run_append_own3 w B 22 22 5 ti (.int .u8 0) 1 1 Try.underlying22 hi hz0 hz1 hz2 rfl _ _ _ h ⟨q, off, none⟩ k cs (cellsB ls) (by rw [cellsB_length, hk, Nat.mul_one]) (fun j u hj => by
      have hj' : j < ls.length := by
        have := (List.getElem?_eq_some_iff.1 hj).1
        rwa [cellsB_length] at this
      rw [cellsB_get ls j hj'] at hj
      rw [Addr.add_lit]
      exact (hby j hj').trans hj) (cellsB_one ls) (by unfold maxLen; omega) (by omega) hB
    have e3 : cellsB (out ++ (ex ++ ls)) = cellsB (out ++ ex) ++ cellsB ls := by simp [cellsB]
    rw [← e3] at k2
    have hpre : BytesIn w1 (some ⟨g0, 0, none⟩) out := fun hno => by
      obtain ⟨b, x, e, hbl, hcc⟩ := h0 hno
      cases e
      refine ⟨g0, 0, rfl, Nat.lt_of_lt_of_le hbl (Upd.of_grown k3).size, fun i hi => ?_⟩
      rcases k4 with k4 | ⟨k4, k5⟩
      · by_cases hg : v'.ownBlock = some g0
        · have := k2.cells (g := g0) hg i (.int .u8 out[i]) (by rw [cellsB_get _ i (by rw [List.length_append]; omega), List.getElem_append_left hi])
          rw [Addr.add_lit] at this
          exact this
        · exact ((Upd.of_grown k3).cell (p := ⟨g0, 0 + i, none⟩) hbl (fun e => hg (k4.trans e))).trans (hcc i hi)
      · exact ((Upd.of_grown k5).cell (p := ⟨g0, 0 + i, none⟩) hbl (fun e => by cases e)).trans (hcc i hi)
    obtain ⟨a', c', rfl⟩ := own_slc k2
    exact ⟨a', c', w1, k1, k2, k3, k4.imp id fun h => h.1, hpre⟩
end Go.Proofs.Ytkhejipcclpknaa
