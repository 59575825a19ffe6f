/- A slice of steps that came in. No statement is proved here. -/
import Derived.Test.YtgimpkbknaopcaaVU
set_option linter.unusedVariables false
set_option linter.unusedSimpArgs false
namespace Go.Proofs.Ytgimpkbknaopcaa
open Go.ChangeShapes Go.WideShapes Go.ChangeAt Go.RowKit

theorem cellsOfOp : Try.prog.cellsOf 32 = 13 := by kernel_rfl
def opCs (x : Int × V) : List Value := .int .i64 x.1 :: x.2.cs
set_option maxRecDepth 10000 in
theorem op_cells {H : Type} {enc : TypeId × Value → H} {w : World} {base : Nat} {spare : Nat → Bool} {held : Bool} {n : Nat} {cs : List Value} {x : DataW H × List MemPlace}
    (h : DataW.trod enc Try.prog w base spare held n 32 cs = some x) : ∃ v : Int × V, cs = opCs v := by
  obtain ⟨ys, m, rfl, rfl, hl, hlen, hf⟩ := DataW.trod_struct Try.underlying32 h
  rw [cellsOfOp] at hl
  obtain ⟨c0, t, rfl, hl1⟩ := len_cons hl
  obtain ⟨y0, yt, rfl, yl0⟩ := len_cons hlen
  obtain ⟨y1, yt1, rfl, yl1⟩ := len_cons yl0
  obtain rfl := List.eq_nil_of_length_eq_zero yl1
  have h0 := hf 0 _ rfl
  have h1 := hf 1 _ rfl
  simp [cellsOfInt, cellsOfV] at h0 h1
  obtain ⟨a0, e0, _⟩ := DataW.trod_int Try.underlying3 h0
  simp at e0
  subst e0
  have e2 : List.take 12 t = t := List.take_of_length_le (by omega)
  first | rw [e2] at h1 | skip
  obtain ⟨v, rfl⟩ := viol_cells h1
  exact ⟨(a0, v), rfl⟩
/-- A slice of steps that can be read. -/
def OIn (w : World) (a : Option Addr) (l : List (Int × V)) : Prop := l ≠ [] → ∃ b o, a = some ⟨b, o, none⟩ ∧ b < w.heap.size ∧ ∀ i (hi : i < l.length) j, j < 13 → w.cell? ⟨b, o + i * 13 + j, none⟩ = (opCs (l[i]))[j]?
theorem OIn.below {w w' : World} {a : Option Addr} {l : List (Int × V)} (h : OIn w a l) (hb : Below w.heap.size w w') : OIn w' a l := by
  intro hn
  obtain ⟨b, o, rfl, hl, hc⟩ := h hn
  exact ⟨b, o, rfl, Nat.lt_of_lt_of_le hl hb.size, fun i hi j hj => (hb.cell (p := ⟨b, o + i * 13 + j, none⟩) hl).trans (hc i hi j hj)⟩
theorem ops_in {H : Type} {enc : TypeId × Value → H} {W : World} {base : Nat} {v : Value} {d : DataW H} {ps : List MemPlace} (hv : Value.okWide Try.prog W .any base 22 v)
    (h : DataW.Trod enc Try.prog W 0 (fun _ => true) true 22 v d ps) : ∃ a cap l, v = .slice a l.length cap ∧ OIn W a l ∧ l.length ≤ 9223372036854775807 ∧ l.length ≤ cap ∧ (a = none → l = []) ∧ (l = [] ∨ ∃ el sp, d = .slice el sp ∧ el.length = l.length) := by
  obtain ⟨a0, len, cap, rfl⟩ := okWide_slice Try.underlying22 hv
  obtain ⟨fuel, hf⟩ := h
  rcases Go.Deep.open_slice Try.underlying22 hf with ⟨hcs, hx⟩ | ⟨a, len', cap', m, n, D, Pl, hcs, _, hl, hm, hmm, hx, hall⟩
  · simp [Value.cells] at hcs
    obtain ⟨rfl, rfl, rfl⟩ := hcs
    exact ⟨_, _, [], rfl, fun hh => absurd rfl hh, by simp, Nat.zero_le _, fun _ => rfl, .inl rfl⟩
  · simp [Value.cells] at hcs
    obtain ⟨rfl, rfl, rfl⟩ := hcs
    simp only [if_true] at hmm
    rw [cellsOfOp] at hall
    by_cases h0 : len = 0
    · subst h0
      exact ⟨_, _, [], rfl, fun hh => absurd rfl hh, by simp, Nat.zero_le _, fun _ => rfl, .inl rfl⟩
    obtain ⟨b, off, spot⟩ := a
    have hspot : spot = none := by
      obtain ⟨cs', h1, h2⟩ := hall 0 (by omega)
      obtain ⟨_, _, hc⟩ := World.cells?_some h1
      obtain ⟨x, rfl⟩ := op_cells h2
      have := hc 0 (by omega)
      simpa [Addr.add] using World.cell?_spot (this.trans rfl)
    subst hspot
    have key : ∀ i, i < len → ∃ x : Int × V, ∀ j, j < 13 → W.cell? ⟨b, off + i * 13 + j, none⟩ = (opCs x)[j]? := by
      intro i hi
      obtain ⟨cs', h1, h2⟩ := hall i (by omega)
      obtain ⟨_, _, hc⟩ := World.cells?_some h1
      obtain ⟨x, rfl⟩ := op_cells h2
      refine ⟨x, fun j hj => ?_⟩
      have := hc j (by omega)
      simpa only [Addr.add_lit] using this
    refine ⟨_, _, List.ofFn (fun i : Fin len => (key i.1 i.2).choose), by rw [List.length_ofFn], fun _ => ⟨b, off, rfl, ?_, fun i hi j hj => ?_⟩, by rw [List.length_ofFn]; unfold maxLen at hm; omega, by rw [List.length_ofFn]; exact hl, (fun h => by cases h), .inr ⟨_, _, congrArg Prod.fst hx, by simp⟩⟩
    · have h1 := (key 0 (by omega)).choose_spec 0 (by omega)
      have h2 : ∃ u, W.cell? ⟨b, off + 0 * 13 + 0, none⟩ = some u := ⟨_, h1.trans rfl⟩
      obtain ⟨u, hu⟩ := h2
      by_cases hb : b < W.heap.size
      · exact hb
      · have e : W.heap[b]? = none := Array.getElem?_eq_none (by omega)
        simp [World.cell?, e] at hu
    · have hi' : i < len := by simpa using hi
      rw [List.getElem_ofFn]
      exact (key i hi').choose_spec j hj
end Go.Proofs.Ytgimpkbknaopcaa
