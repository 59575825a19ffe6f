/- Rows of violations, marked and appended to. No statement is proved here. -/
import Derived.Test.YtgimpkbknaopcaaStG
import Derived.Test.YtgimpkbknaopcaaVZ
import Derived.Laws.IdiomCopy
set_option linter.unusedVariables false
set_option linter.unusedSimpArgs false
namespace Go.Proofs.Ytgimpkbknaopcaa
open Go.RowKit

def setR : Array Value → Nat → List Value → Array Value
  | c, _, [] => c
  | c, o, v :: r => setR (c.setIfInBounds o v) (o + 1) r
theorem setR_size : ∀ (vs : List Value) (c : Array Value) (o : Nat), (setR c o vs).size = c.size
  | [], c, o => rfl
  | v :: r, c, o => by rw [setR, setR_size r, Array.size_setIfInBounds]
theorem setR_out : ∀ (vs : List Value) (c : Array Value) (o i : Nat), (i < o ∨ o + vs.length ≤ i) → (setR c o vs)[i]? = c[i]?
  | [], c, o, i, _ => rfl
  | v :: r, c, o, i, h => by
    rw [setR, setR_out r _ _ _ (by simp only [List.length_cons] at h; omega), Array.getElem?_setIfInBounds_ne (by simp only [List.length_cons] at h; omega)]
theorem setR_in : ∀ (vs : List Value) (c : Array Value) (o j : Nat), j < vs.length → o + vs.length ≤ c.size → (setR c o vs)[o + j]? = vs[j]?
  | [], c, o, j, h, _ => by simp at h
  | v :: r, c, o, 0, h, hs => by
    rw [setR, setR_out r _ _ _ (by omega)]
    simp only [List.length_cons] at hs
    rw [Nat.add_zero, Array.getElem?_setIfInBounds_self_of_lt (by omega)]
    rfl
  | v :: r, c, o, j + 1, h, hs => by
    rw [setR]
    simp only [List.length_cons] at h hs
    have := setR_in r (c.setIfInBounds o v) (o + 1) j (by omega) (by rw [Array.size_setIfInBounds]; omega)
    rw [show o + (j + 1) = o + 1 + j by omega, this]
    rfl
theorem heap_setCells_same : ∀ (vs : List Value) (w : World) (g o : Nat) (c : Array Value) (t : TypeId), w.heap[g]? = some (.cells c t (0, 0)) → (w.setCells g o vs).heap[g]? = some (.cells (setR c o vs) t (0, 0))
  | [], w, g, o, c, t, h => h
  | v :: r, w, g, o, c, t, h => heap_setCells_same r _ g (o + 1) _ t (heap_setCell_same w g o _ _ v h)
theorem upd_setCells (g : Nat) : ∀ (vs : List Value) (w : World) (o : Nat), Upd (fun k => k = g) w (w.setCells g o vs)
  | [], w, o => Upd.refl _ _
  | v :: r, w, o => ((Upd.refl (fun k => k = g) w).setCell (p := ⟨g, o, none⟩) (fun _ => rfl) v).trans (upd_setCells g r _ _) (fun _ _ h => h)
theorem ownV_set {w : World} {g n c : Nat} {l : List V} (h : OwnV w (.slice (some ⟨g, 0, none⟩) n c) l) {k : Nat} (hk : k < l.length) (x : V) : OwnV (w.setCells g (k * 12) x.cs) (.slice (some ⟨g, 0, none⟩) n c) (l.set k x) := by
  rcases h.2 with ⟨hh, _⟩ | ⟨g', c', cur, hh, hb, hg, hle, hm, hs, ht⟩
  · cases hh
  cases hh
  have hsz : l.length * 12 ≤ cur.size := by rw [hs]; exact Nat.mul_le_mul_right _ hle
  refine ⟨cellsV_length _, .inr ⟨g, c, setR cur (k * 12) x.cs, by rw [List.length_set], hb, heap_setCells_same _ _ _ _ _ _ hg, by rw [List.length_set]; exact hle, hm, by rw [setR_size]; exact hs, ?_⟩⟩
  rw [List.length_set]
  apply List.ext_getElem?
  intro t
  by_cases hl : t < l.length * 12
  · rw [List.getElem?_take, if_pos hl, Array.getElem?_toList]
    have hi : t / 12 < l.length := by omega
    have hj : t % 12 < 12 := by omega
    have h1 := cellsV_get (l.set k x) (t / 12) (t % 12) (by rw [List.length_set]; exact hi) hj
    rw [show t / 12 * 12 + t % 12 = t by omega] at h1
    rw [h1, List.getElem_set]
    by_cases e : k = t / 12
    · rw [if_pos e]
      have := setR_in x.cs cur (k * 12) (t % 12) (by rw [V.cs_length]; exact hj) (by rw [V.cs_length]; omega)
      rw [show k * 12 + t % 12 = t by omega] at this
      exact this
    · rw [if_neg e, setR_out _ _ _ _ (by rw [V.cs_length]; omega)]
      have h2 := cellsV_get l (t / 12) (t % 12) hi hj
      rw [show t / 12 * 12 + t % 12 = t by omega] at h2
      rw [← h2, ← ht, List.getElem?_take, if_pos hl, Array.getElem?_toList]
  · rw [List.getElem?_eq_none (by rw [List.length_take]; omega), List.getElem?_eq_none (by rw [cellsV_length, List.length_set]; omega)]
/-- A violation with a kind and nothing else. -/
def mkV (z : Int) : V := ⟨z, 0, 0, 0, 0, .empty, false, .empty, false, .empty, 0, 0⟩
/-- A list of N slices of violations, each a row of its own. -/
structure RowsV (w : World) (lb N : Nat) (ad : Nat → Option Addr) (M cc : Nat → Nat) (ct : Nat → List V) : Prop where
  lst : ∀ j, j < N → w.cell? ⟨lb, j, none⟩ = some (.slice (ad j) (M j) (cc j))
  lb0 : lb < w.heap.size
  row : ∀ j, j < N → OwnV w (.slice (ad j) (M j) (cc j)) (ct j)
  ln : ∀ j, j < N → M j = (ct j).length
  ne : ∀ j k, j < N → k < N → j ≠ k → ∀ b, (Value.slice (ad j) (M j) (cc j)).ownBlock = some b → (Value.slice (ad k) (M k) (cc k)).ownBlock ≠ some b
  nl : ∀ j, j < N → (Value.slice (ad j) (M j) (cc j)).ownBlock ≠ some lb
theorem RowsV.addr {w : World} {lb N : Nat} {ad : Nat → Option Addr} {M cc : Nat → Nat} {ct : Nat → List V} (h : RowsV w lb N ad M cc ct) {j : Nat} (hj : j < N) (h0 : 0 < M j) : ∃ g, ad j = some ⟨g, 0, none⟩ := by
  rcases (h.row j hj).2 with ⟨hh, h1⟩ | ⟨g, c, cur, hh, _⟩
  · have := h.ln j hj
    omega
  · exact ⟨g, (Value.slice.inj hh).1⟩
theorem RowsV.set {w : World} {lb N : Nat} {ad : Nat → Option Addr} {M cc : Nat → Nat} {ct : Nat → List V} (h : RowsV w lb N ad M cc ct) {j i g : Nat} (hj : j < N) (hi : i < M j) (hg : ad j = some ⟨g, 0, none⟩) (x : V) : RowsV (w.setCells g (i * 12) x.cs) lb N ad M cc (fun q => if q = j then (ct j).set i x else ct q) := by
  have u := upd_setCells g x.cs w (i * 12)
  have hob : (Value.slice (ad j) (M j) (cc j)).ownBlock = some g := by rw [hg]; rfl
  refine ⟨fun q hq => ?_, Nat.lt_of_lt_of_le h.lb0 u.size, fun q hq => ?_, fun q hq => ?_, h.ne, h.nl⟩
  · exact (u.cell (p := ⟨lb, q, none⟩) h.lb0 (fun e => h.nl j hj (by rw [hob]; exact congrArg some e.symm))).trans (h.lst q hq)
  · by_cases hqj : q = j
    · subst hqj
      rw [if_pos rfl, hg]
      have := h.row q hq
      rw [hg] at this
      exact ownV_set this (by rw [← h.ln q hq]; exact hi) x
    · rw [if_neg hqj]
      exact ownV_kept (h.row q hq) fun k hk => u.block k (ownV_lt (h.row q hq) k hk) (fun e => h.ne j q hj hq (fun e => hqj e.symm) g hob (by rw [hk, e]))
  · by_cases hqj : q = j
    · subst hqj
      rw [if_pos rfl, List.length_set]
      exact h.ln q hq
    · rw [if_neg hqj]
      exact h.ln q hq
end Go.Proofs.Ytgimpkbknaopcaa
