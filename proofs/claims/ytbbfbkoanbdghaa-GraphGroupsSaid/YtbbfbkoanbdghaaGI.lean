/- A slice of edges that came in. No statement is proved here. -/
import Derived.Test.YtbbfbkoanbdghaaGL
import Derived.OpenShut
import Derived.ProofKit
import Derived.Deep.Slices
set_option linter.unusedVariables false
set_option linter.unusedSimpArgs false
namespace Go.Proofs.Ytbbfbkoanbdghaa
open Go.ChangeShapes Go.WideShapes Go.ChangeAt Go.RowKit

theorem len_cons {α : Type} {l : List α} {n : Nat} (h : l.length = n + 1) : ∃ a t, l = a :: t ∧ t.length = n := by
  cases l with
  | nil => simp at h
  | cons a t => exact ⟨a, t, rfl, by simpa using h⟩
set_option maxRecDepth 10000 in
theorem edge_cells {H : Type} {enc : TypeId × Value → H} {w : World} {base : Nat} {spare : Nat → Bool} {held : Bool} {n : Nat} {cs : List Value} {x : DataW H × List MemPlace}
    (h : DataW.trod enc Try.prog w base spare held n 29 cs = some x) : ∃ v : E, cs = v.cs := by
  obtain ⟨ys, m, rfl, rfl, hl, hlen, hf⟩ := DataW.trod_struct Try.underlying29 h
  rw [cellsOfE] at hl
  obtain ⟨c0, ct0, rfl, cl0⟩ := len_cons hl
  obtain ⟨c1, ct1, rfl, cl1⟩ := len_cons cl0
  obtain ⟨c2, ct2, rfl, cl2⟩ := len_cons cl1
  obtain rfl := List.eq_nil_of_length_eq_zero cl2
  have h0 := hf 0 _ rfl
  have h1 := hf 1 _ rfl
  have h2 := hf 2 _ rfl
  obtain ⟨y0, yt0, rfl, yl0⟩ := len_cons hlen
  obtain ⟨y1, yt1, rfl, yl1⟩ := len_cons yl0
  obtain ⟨y2, yt2, rfl, yl2⟩ := len_cons yl1
  obtain rfl := List.eq_nil_of_length_eq_zero yl2
  simp [cellsOfI] at h0 h1 h2
  obtain ⟨a0, e0, _⟩ := DataW.trod_int Try.underlying3 h0
  obtain ⟨a1, e1, _⟩ := DataW.trod_int Try.underlying3 h1
  obtain ⟨a2, e2, _⟩ := DataW.trod_int Try.underlying3 h2
  simp at e0 e1 e2
  subst e0 e1 e2
  exact ⟨⟨a0, a1, a2⟩, rfl⟩
set_option maxRecDepth 100000 in
theorem edges_in {H : Type} {enc : TypeId × Value → H} {W : World} {base : Nat} {v : Value} {d : DataW H} {ps : List MemPlace} (hv : Value.okWide Try.prog W .any base 30 v)
    (h : DataW.Trod enc Try.prog W 0 (fun _ => true) true 30 v d ps) : ∃ a cap l, v = .slice a l.length cap ∧ ESl W a l ∧ l.length ≤ 9223372036854775807 ∧ l.length ≤ cap ∧ (a = none → l = []) ∧ (l = [] ∨ ∃ el sp, d = .slice el sp ∧ el.length = l.length) := by
  obtain ⟨a0, len, cap, rfl⟩ := okWide_slice Try.underlying30 hv
  obtain ⟨fuel, hf⟩ := h
  rcases Go.Deep.open_slice Try.underlying30 hf with ⟨hcs, hx⟩ | ⟨a, len', cap', m, n, D, Pl, hcs, _, hl, hm, hmm, hx, hall⟩
  · simp [Value.cells] at hcs
    obtain ⟨rfl, rfl, rfl⟩ := hcs
    exact ⟨_, _, [], rfl, fun hh => absurd rfl hh, by simp, Nat.zero_le _, fun _ => rfl, .inl rfl⟩
  · simp [Value.cells] at hcs
    obtain ⟨rfl, rfl, rfl⟩ := hcs
    simp only [if_true] at hmm
    rw [cellsOfE] at hall
    by_cases h0 : len = 0
    · subst h0
      exact ⟨_, _, [], rfl, fun hh => absurd rfl hh, by simp, Nat.zero_le _, fun _ => rfl, .inl rfl⟩
    obtain ⟨b, off, spot⟩ := a
    have hspot : spot = none := by
      obtain ⟨cs', h1, h2⟩ := hall 0 (by omega)
      obtain ⟨_, _, hc⟩ := World.cells?_some h1
      obtain ⟨x, rfl⟩ := edge_cells h2
      have := hc 0 (by omega)
      simpa [Addr.add] using World.cell?_spot (this.trans rfl)
    subst hspot
    have key : ∀ i, i < len → ∃ x : E, ∀ j, j < 3 → W.cell? ⟨b, off + i * 3 + j, none⟩ = x.cs[j]? := by
      intro i hi
      obtain ⟨cs', h1, h2⟩ := hall i (by omega)
      obtain ⟨_, _, hc⟩ := World.cells?_some h1
      obtain ⟨x, rfl⟩ := edge_cells h2
      refine ⟨x, fun j hj => ?_⟩
      have := hc j (by omega)
      simpa only [Addr.add_lit] using this
    refine ⟨_, _, List.ofFn (fun i : Fin len => (key i.1 i.2).choose), by rw [List.length_ofFn], fun _ => ⟨b, off, rfl, ?_, fun i hi j hj => ?_⟩, by rw [List.length_ofFn]; unfold maxLen at hm; omega, by rw [List.length_ofFn]; exact hl, (fun h => by cases h), .inr ⟨_, _, congrArg Prod.fst hx, by simp⟩⟩
    · have h1 := (key 0 (by omega)).choose_spec 0 (by omega)
      have h2 : ∃ u, W.cell? ⟨b, off + 0 * 3 + 0, none⟩ = some u := ⟨_, h1.trans rfl⟩
      obtain ⟨u, hu⟩ := h2
      by_cases hb : b < W.heap.size
      · exact hb
      · have e : W.heap[b]? = none := Array.getElem?_eq_none (by omega)
        simp [World.cell?, e] at hu
    · have hi' : i < len := by simpa using hi
      rw [List.getElem_ofFn]
      exact (key i hi').choose_spec j hj
end Go.Proofs.Ytbbfbkoanbdghaa
