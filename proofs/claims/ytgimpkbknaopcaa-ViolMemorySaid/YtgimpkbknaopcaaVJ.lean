/- A slice of puts that the code owns: its cells, and the sort's words for it. No statement is proved here. -/
import Derived.Test.YtgimpkbknaopcaaVI
import Derived.Test.YtgimpkbknaopcaaRowC
set_option linter.unusedVariables false
set_option linter.unusedSimpArgs false
namespace Go.Proofs.Ytgimpkbknaopcaa
open Go.RowKit Go.Shelf Go.Lib
open Go.Sort hiding Below

def cellsP : List Pt → List Value
  | [] => []
  | p :: r => encP p ++ cellsP r
theorem cellsP_length : ∀ l : List Pt, (cellsP l).length = l.length * 13
  | [] => rfl
  | p :: r => by simp [cellsP, cellsP_length r, encP_length]; omega
theorem cellsP_append : ∀ a b : List Pt, cellsP (a ++ b) = cellsP a ++ cellsP b
  | [], b => rfl
  | p :: r, b => by simp [cellsP, cellsP_append r b]
theorem cellsP_one : ∀ l : List Pt, ∀ v ∈ cellsP l, v.oneCell' = true
  | [], v, h => by simp [cellsP] at h
  | p :: r, v, h => by
    simp only [cellsP, List.mem_append] at h
    rcases h with h | h
    · exact encP_one p v h
    · exact cellsP_one r v h
theorem cellsP_get : ∀ (l : List Pt) (i j : Nat) (hi : i < l.length), j < 13 → (cellsP l)[i * 13 + j]? = (encP l[i])[j]?
  | p :: r, 0, j, _, hj => by
    simp only [cellsP, Nat.zero_mul, Nat.zero_add, List.getElem_cons_zero]
    rw [List.getElem?_append_left (by rw [encP_length]; exact hj)]
  | p :: r, i + 1, j, hi, hj => by
    simp only [cellsP, List.getElem_cons_succ]
    rw [List.getElem?_append_right (by rw [encP_length]; omega), encP_length, show (i + 1) * 13 + j - 13 = i * 13 + j by omega]
    exact cellsP_get r i j (by simpa using hi) hj

theorem infoP : (Try.prog.info? 55).map (fun i => (i.zero, i.size, i.bytes)) = some (some (.agg #[.int .i64 0, .int .i64 0, .int .i64 0, .int .i64 0, .int .i64 0, .string .empty, .bool false, .string .empty, .bool false, .string .empty, .int .i64 0, .int .i64 0, .int .i64 0]), 13, 128) := by kernel_rfl

abbrev Own (w : World) (v : Value) (l : List Pt) : Prop := w.ownsRow 0 55 13 v l.length (cellsP l)

theorem own_holds {w : World} {g n cap : Nat} {l : List Pt} (h : Own w (.slice (some ⟨g, 0, none⟩) n cap) l) : HoldsK encP 13 w g 0 l.toArray ∧ g < w.heap.size ∧ n = l.length := by
  rcases h.2 with ⟨hh, _⟩ | ⟨g0, cap0, cur, hv0, k0, hg, rest⟩
  · cases hh
  · have e : g = g0 := by simp at hv0; exact hv0.1
    have e2 : n = l.length := by cases hv0; rfl
    subst e
    refine ⟨?_, blk_lt hg, e2⟩
    intro t ht
    have ht' : t < l.length * 13 := by simpa using ht
    have hi : t / 13 < l.length := by omega
    have hj : t % 13 < 13 := by omega
    have hc := h.cells (g := g) rfl t
    have hget := cellsP_get l (t / 13) (t % 13) hi hj
    rw [show t / 13 * 13 + t % 13 = t by omega] at hget
    refine ⟨?_, by rw [Nat.zero_add]; exact blk_free hg t⟩
    rw [get_flatK _ _ _ _ (by simpa using ht')]
    have hv : ∃ v, (encP l[t / 13])[t % 13]? = some v := ⟨_, List.getElem?_eq_getElem (by rw [encP_length]; exact hj)⟩
    obtain ⟨v, hv⟩ := hv
    have h1 := hc v (hget.trans hv)
    rw [Addr.add_lit] at h1
    have e3 : l.toArray[t / 13]! = l[t / 13] := by simp [hi]
    rw [e3]
    have e4 : (encP l[t / 13])[t % 13]! = v := by
      rw [List.getElem!_eq_getElem?_getD, hv]; rfl
    rw [e4]
    exact h1
/-- Behind the sort's (or the heap's) words: the same slice owns the new list. -/
theorem own_swk {w w' : World} {g n cap : Nat} {l : List Pt} {d' : Array Pt} (h : Own w (.slice (some ⟨g, 0, none⟩) n cap) l) (S : SWK encP 13 w g 0 d' w') (hs : d'.size = l.length) : Own w' (.slice (some ⟨g, 0, none⟩) n cap) d'.toList := by
  have hH := own_holds h
  have hH' := S.holds hH.2.1 hH.1 (by simpa using hs)
  rcases h.2 with ⟨hh, _⟩ | ⟨g0, cap0, cur, hv0, k0, hg, hle, hcm, hcs, htk⟩
  · cases hh
  · have e : g = g0 := by simp at hv0; exact hv0.1
    subst e
    have hg' : ∃ cur', w'.heap[g]? = some (.cells cur' 55 (0, 0)) ∧ cur'.size = cur.size := by
      obtain ⟨m, os, rfl⟩ := S
      refine ⟨putCells id 0 (flatK encP 13 d') cur, ?_, by simp [putCells]⟩
      unfold sortWorldK putRowK putRow mapBlock grow Go.Sort.ahead
      simp only
      rw [Array.getElem?_append_left (by simpa using hH.2.1), Array.getElem?_modify, if_pos rfl, hg]
      rfl
    obtain ⟨cur', hg1, hsz⟩ := hg'
    refine ⟨cellsP_length _, .inr ⟨g, cap0, cur', by simpa [hs] using hv0, k0, hg1, by simpa [hs] using hle, hcm, by rw [hsz]; exact hcs, ?_⟩⟩
    have hle' : d'.toList.length * 13 ≤ cur'.size := by
      rw [hsz, hcs]
      exact Nat.mul_le_mul_right _ (by simpa [hs] using hle)
    apply List.ext_getElem?
    intro t
    by_cases ht : t < d'.toList.length * 13
    · rw [List.getElem?_take, if_pos ht]
      have ht' : t < d'.size * 13 := by simpa using ht
      have hi : t / 13 < d'.toList.length := by omega
      have hj : t % 13 < 13 := by omega
      have hc := (hH' t (by simpa using ht')).1
      rw [get_flatK _ _ _ _ ht', Nat.zero_add, blk_cell hg1] at hc
      have hget := cellsP_get d'.toList (t / 13) (t % 13) hi hj
      rw [show t / 13 * 13 + t % 13 = t by omega] at hget
      rw [hget, Array.getElem?_toList, hc]
      have e3 : d'[t / 13]! = d'.toList[t / 13] := by
        have : t / 13 < d'.size := by simpa using hi
        simp [this]
      rw [e3]
      simp only [id]
      rw [List.getElem!_eq_getElem?_getD, List.getElem?_eq_getElem (by rw [encP_length]; exact hj)]
      rfl
    · rw [List.getElem?_eq_none (by rw [List.length_take]; omega), List.getElem?_eq_none (by rw [cellsP_length]; omega)]
theorem own_lt {w : World} {v : Value} {l : List Pt} (h : Own w v l) : ∀ k, v.ownBlock = some k → k < w.heap.size := by
  intro k hk
  rcases h.2 with ⟨rfl, _⟩ | ⟨g0, cap0, cur, rfl, k0, hg, rest⟩
  · simp [Value.ownBlock] at hk
  · simp [Value.ownBlock] at hk
    subst hk
    exact blk_lt hg
theorem own_kept {w w' : World} {v : Value} {l : List Pt} (h : Own w v l) (hb : ∀ k, v.ownBlock = some k → w'.heap[k]? = w.heap[k]?) : Own w' v l := by
  refine ⟨h.1, ?_⟩
  rcases h.2 with hh | ⟨g0, cap0, cur, rfl, k0, hg, rest⟩
  · exact .inl hh
  · exact .inr ⟨g0, cap0, cur, rfl, k0, (hb g0 rfl).trans hg, rest⟩
theorem own_below {w w' : World} {v : Value} {l : List Pt} (h : Own w v l) (hb : Below w.heap.size w w') : Own w' v l := own_kept h fun k hk => hb.block k (own_lt h k hk)
/-- append of puts onto an own slice. -/
theorem app_puts (w : World) (ty : TypeId) (v : Value) (l ys : List Pt) (h : Own w v l) (a : Addr) (c : Nat) (hys : ∀ j u, (cellsP ys)[j]? = some u → w.cell? (a.add j) = some u) (hb : l.length + ys.length ≤ 100000) :
    ∃ v' w', (Builtin.append_ #[51, 51] ty #[v, .slice (some a) ys.length c]).run Try.prog w = .ok v' w' ∧ Own w' v' (l ++ ys) ∧ w.grownBy w' v.ownBlock ∧
      (v'.ownBlock = v.ownBlock ∨ (v'.ownBlock = some w.heap.size ∧ w.grownBy w' none)) := by
  obtain ⟨ti, hi, hz0, hz1, hz2⟩ := info_parts infoP
  unfold Own
  rw [cellsP_append, List.length_append]
  exact run_append_own3 w 0 51 ty 55 ti _ 13 128 Try.underlying51 hi hz0 hz1 hz2 rfl v _ _ h a ys.length c (cellsP ys) (cellsP_length ys) hys (cellsP_one _) (by unfold maxLen; omega) (by omega) (Nat.zero_le _)
end Go.Proofs.Ytgimpkbknaopcaa
