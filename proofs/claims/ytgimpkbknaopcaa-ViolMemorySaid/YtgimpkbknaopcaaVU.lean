/- A slice of violations that came in. No statement is proved here. -/
import Derived.Test.YtgimpkbknaopcaaVT
import Derived.OpenShut
import Derived.ProofKit
import Derived.Deep.Slices
set_option linter.unusedVariables false
set_option linter.unusedSimpArgs false
namespace Go.Proofs.Ytgimpkbknaopcaa
open Go.ChangeShapes Go.WideShapes Go.ChangeAt Go.RowKit

theorem cellsOfInt : Try.prog.cellsOf 3 = 1 := by kernel_rfl
theorem cellsOfStr : Try.prog.cellsOf 9 = 1 := by kernel_rfl
theorem cellsOfBool : Try.prog.cellsOf 4 = 1 := by kernel_rfl
theorem cellsOfV : Try.prog.cellsOf 30 = 12 := by kernel_rfl
theorem len_cons {α : Type} {l : List α} {n : Nat} (h : l.length = n + 1) : ∃ a t, l = a :: t ∧ t.length = n := by
  cases l with
  | nil => simp at h
  | cons a t => exact ⟨a, t, rfl, by simpa using h⟩
set_option maxRecDepth 10000 in
theorem viol_cells {H : Type} {enc : TypeId × Value → H} {w : World} {base : Nat} {spare : Nat → Bool} {held : Bool} {n : Nat} {cs : List Value} {x : DataW H × List MemPlace}
    (h : DataW.trod enc Try.prog w base spare held n 30 cs = some x) : ∃ v : V, cs = v.cs := by
  obtain ⟨ys, m, rfl, rfl, hl, hlen, hf⟩ := DataW.trod_struct Try.underlying30 h
  rw [cellsOfV] at hl
  obtain ⟨c0, ct0, rfl, cl0⟩ := len_cons hl
  obtain ⟨c1, ct1, rfl, cl1⟩ := len_cons cl0
  obtain ⟨c2, ct2, rfl, cl2⟩ := len_cons cl1
  obtain ⟨c3, ct3, rfl, cl3⟩ := len_cons cl2
  obtain ⟨c4, ct4, rfl, cl4⟩ := len_cons cl3
  obtain ⟨c5, ct5, rfl, cl5⟩ := len_cons cl4
  obtain ⟨c6, ct6, rfl, cl6⟩ := len_cons cl5
  obtain ⟨c7, ct7, rfl, cl7⟩ := len_cons cl6
  obtain ⟨c8, ct8, rfl, cl8⟩ := len_cons cl7
  obtain ⟨c9, ct9, rfl, cl9⟩ := len_cons cl8
  obtain ⟨c10, ct10, rfl, cl10⟩ := len_cons cl9
  obtain ⟨c11, ct11, rfl, cl11⟩ := len_cons cl10
  obtain rfl := List.eq_nil_of_length_eq_zero cl11
  have h0 := hf 0 _ rfl
  have h1 := hf 1 _ rfl
  have h2 := hf 2 _ rfl
  have h3 := hf 3 _ rfl
  have h4 := hf 4 _ rfl
  have h5 := hf 5 _ rfl
  have h6 := hf 6 _ rfl
  have h7 := hf 7 _ rfl
  have h8 := hf 8 _ rfl
  have h9 := hf 9 _ rfl
  have h10 := hf 10 _ rfl
  have h11 := hf 11 _ rfl
  obtain ⟨y0, yt0, rfl, yl0⟩ := len_cons hlen
  obtain ⟨y1, yt1, rfl, yl1⟩ := len_cons yl0
  obtain ⟨y2, yt2, rfl, yl2⟩ := len_cons yl1
  obtain ⟨y3, yt3, rfl, yl3⟩ := len_cons yl2
  obtain ⟨y4, yt4, rfl, yl4⟩ := len_cons yl3
  obtain ⟨y5, yt5, rfl, yl5⟩ := len_cons yl4
  obtain ⟨y6, yt6, rfl, yl6⟩ := len_cons yl5
  obtain ⟨y7, yt7, rfl, yl7⟩ := len_cons yl6
  obtain ⟨y8, yt8, rfl, yl8⟩ := len_cons yl7
  obtain ⟨y9, yt9, rfl, yl9⟩ := len_cons yl8
  obtain ⟨y10, yt10, rfl, yl10⟩ := len_cons yl9
  obtain ⟨y11, yt11, rfl, yl11⟩ := len_cons yl10
  obtain rfl := List.eq_nil_of_length_eq_zero yl11
  simp [cellsOfInt, cellsOfStr, cellsOfBool] at h0 h1 h2 h3 h4 h5 h6 h7 h8 h9 h10 h11
  obtain ⟨a0, e0, _⟩ := DataW.trod_int Try.underlying3 h0
  obtain ⟨a1, e1, _⟩ := DataW.trod_int Try.underlying3 h1
  obtain ⟨a2, e2, _⟩ := DataW.trod_int Try.underlying3 h2
  obtain ⟨a3, e3, _⟩ := DataW.trod_int Try.underlying3 h3
  obtain ⟨a4, e4, _⟩ := DataW.trod_int Try.underlying3 h4
  obtain ⟨a5, e5, _⟩ := DataW.trod_string Try.underlying9 h5
  obtain ⟨a6, e6, _⟩ := DataW.trod_bool Try.underlying4 h6
  obtain ⟨a7, e7, _⟩ := DataW.trod_string Try.underlying9 h7
  obtain ⟨a8, e8, _⟩ := DataW.trod_bool Try.underlying4 h8
  obtain ⟨a9, e9, _⟩ := DataW.trod_string Try.underlying9 h9
  obtain ⟨a10, e10, _⟩ := DataW.trod_int Try.underlying3 h10
  obtain ⟨a11, e11, _⟩ := DataW.trod_int Try.underlying3 h11
  simp at e0 e1 e2 e3 e4 e5 e6 e7 e8 e9 e10 e11
  subst e0 e1 e2 e3 e4 e5 e6 e7 e8 e9 e10 e11
  exact ⟨⟨a0, a1, a2, a3, a4, a5, a6, a7, a8, a9, a10, a11⟩, rfl⟩
theorem viols_in {H : Type} {enc : TypeId × Value → H} {W : World} {base : Nat} {v : Value} {d : DataW H} {ps : List MemPlace} (hv : Value.okWide Try.prog W .any base 28 v)
    (h : DataW.Trod enc Try.prog W 0 (fun _ => true) true 28 v d ps) : ∃ a cap l, v = .slice a l.length cap ∧ VIn W a l ∧ l.length ≤ 9223372036854775807 ∧ l.length ≤ cap ∧ (a = none → l = []) ∧ (l = [] ∨ ∃ el sp, d = .slice el sp ∧ el.length = l.length) := by
  obtain ⟨a0, len, cap, rfl⟩ := okWide_slice Try.underlying28 hv
  obtain ⟨fuel, hf⟩ := h
  rcases Go.Deep.open_slice Try.underlying28 hf with ⟨hcs, hx⟩ | ⟨a, len', cap', m, n, D, Pl, hcs, _, hl, hm, hmm, hx, hall⟩
  · simp [Value.cells] at hcs
    obtain ⟨rfl, rfl, rfl⟩ := hcs
    exact ⟨_, _, [], rfl, fun hh => absurd rfl hh, by simp, Nat.zero_le _, fun _ => rfl, .inl rfl⟩
  · simp [Value.cells] at hcs
    obtain ⟨rfl, rfl, rfl⟩ := hcs
    simp only [if_true] at hmm
    rw [cellsOfV] at hall
    by_cases h0 : len = 0
    · subst h0
      exact ⟨_, _, [], rfl, fun hh => absurd rfl hh, by simp, Nat.zero_le _, fun _ => rfl, .inl rfl⟩
    obtain ⟨b, off, spot⟩ := a
    have hspot : spot = none := by
      obtain ⟨cs', h1, h2⟩ := hall 0 (by omega)
      obtain ⟨_, _, hc⟩ := World.cells?_some h1
      obtain ⟨x, rfl⟩ := viol_cells h2
      have := hc 0 (by omega)
      simpa [Addr.add] using World.cell?_spot (this.trans rfl)
    subst hspot
    have key : ∀ i, i < len → ∃ x : V, ∀ j, j < 12 → W.cell? ⟨b, off + i * 12 + j, none⟩ = x.cs[j]? := by
      intro i hi
      obtain ⟨cs', h1, h2⟩ := hall i (by omega)
      obtain ⟨_, _, hc⟩ := World.cells?_some h1
      obtain ⟨x, rfl⟩ := viol_cells h2
      refine ⟨x, fun j hj => ?_⟩
      have := hc j (by omega)
      simpa only [Addr.add_lit] using this
    refine ⟨_, _, List.ofFn (fun i : Fin len => (key i.1 i.2).choose), by rw [List.length_ofFn], fun _ => ⟨b, off, rfl, ?_, fun i hi j hj => ?_⟩, by rw [List.length_ofFn]; unfold maxLen at hm; omega, by rw [List.length_ofFn]; exact hl, (fun h => by cases h), .inr ⟨_, _, congrArg Prod.fst hx, by simp⟩⟩
    · have h1 := (key 0 (by omega)).choose_spec 0 (by omega)
      have h2 : ∃ u, W.cell? ⟨b, off + 0 * 12 + 0, none⟩ = some u := ⟨_, h1.trans rfl⟩
      obtain ⟨u, hu⟩ := h2
      by_cases hb : b < W.heap.size
      · exact hb
      · have e : W.heap[b]? = none := Array.getElem?_eq_none (by omega)
        simp [World.cell?, e] at hu
    · have hi' : i < len := by simpa using hi
      rw [List.getElem_ofFn]
      exact (key i hi').choose_spec j hj
end Go.Proofs.Ytgimpkbknaopcaa
