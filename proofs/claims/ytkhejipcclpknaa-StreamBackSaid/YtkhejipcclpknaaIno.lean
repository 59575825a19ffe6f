/- Slices of slices of bytes that come in. No statement is proved here. -/
import Derived.Test.YtkhejipcclpknaaInn
import Derived.Deep.Slices
set_option linter.unusedVariables false
set_option linter.unusedSimpArgs false
namespace Go.Proofs.Ytkhejipcclpknaa
open Go.ChangeShapes Go.WideShapes Go.ChangeAt Go.RowKit

theorem cellsRow : Try.prog.cellsOf 22 = 1 := by kernel_rfl
set_option maxRecDepth 100000 in
theorem bytes_trod {H : Type} {enc : TypeId × Value → H} {W : World} {v : Value} {fuel : Nat} {x : DataW H × List MemPlace} (hf : DataW.trod enc Try.prog W 0 (fun _ => true) true fuel 22 [v] = some x) : ∃ a cap l, v = .slice a l.length cap ∧ BytesIn W a l ∧ l.length ≤ cap := by
  rcases open_ints Try.underlying22 Try.underlying5 cellsByte hf with ⟨hcs, hx⟩ | ⟨a, len', cap', zs, hcs, _, hl, hm, hz, hx, hcell, hwz⟩
  · simp at hcs
    exact ⟨none, 0, [], hcs, fun h => absurd rfl h, Nat.le_refl _⟩
  · simp at hcs
    simp only [if_true] at hz
    have hlen : (zs.take len').length = len' := by rw [List.length_take]; omega
    refine ⟨some a, cap', zs.take len', by rw [hlen]; exact hcs, fun hne => ?_, by rw [hlen]; exact hl⟩
    have hp : 0 < len' := by
      have := List.length_pos_iff.2 hne
      omega
    obtain ⟨b, off, rfl, hc⟩ := ints_at hcell (show 0 < zs.length by omega)
    refine ⟨b, off, rfl, cell_blk (hc 0 (by omega)), fun i hi => ?_⟩
    have hi' : i < len' := by omega
    have := hc i (by omega)
    rw [List.getElem_take]
    rw [List.getD_eq_getElem?_getD, List.getElem?_eq_getElem (by omega)] at this
    exact this
def PiecesIn (w : World) (a : Option Addr) (len : Nat) (q : Nat → Option Addr × List Int × Nat) : Prop := len ≤ 9223372036854775807 ∧ ∀ i, i < len → ∃ b off, a = some ⟨b, off, none⟩ ∧ b < w.heap.size ∧ w.cell? ⟨b, off + i, none⟩ = some (.slice (q i).1 (q i).2.1.length (q i).2.2) ∧ BytesIn w (q i).1 (q i).2.1
set_option maxRecDepth 100000 in
theorem pieces_in {H : Type} {enc : TypeId × Value → H} {W : World} {base : Nat} {v : Value} {d : DataW H} {ps : List MemPlace} (hv : Value.okWide Try.prog W .any base 48 v)
    (h : DataW.Trod enc Try.prog W 0 (fun _ => true) true 48 v d ps) : ∃ a len cap q, v = .slice a len cap ∧ PiecesIn W a len q := by
  obtain ⟨a0, len, cap, rfl⟩ := okWide_slice Try.underlying48 hv
  obtain ⟨fuel, hf⟩ := h
  rcases Go.Deep.open_slice1 Try.underlying48 cellsRow hf with ⟨hcs, hx⟩ | ⟨a, len', cap', m, n, V, D, Pl, hcs, _, hl, hm, hmm, hx, hel⟩
  · simp [Value.cells] at hcs
    obtain ⟨rfl, rfl, rfl⟩ := hcs
    exact ⟨_, _, _, fun _ => (none, [], 0), rfl, by omega, fun i hi => by omega⟩
  · simp [Value.cells] at hcs
    obtain ⟨rfl, rfl, rfl⟩ := hcs
    simp only [if_true] at hmm
    have hq : ∀ i, ∃ q : Option Addr × List Int × Nat, i < len → V i = .slice q.1 q.2.1.length q.2.2 ∧ BytesIn W q.1 q.2.1 := fun i => by
      by_cases hi : i < len
      · obtain ⟨a', c', l', e1, e2, e3⟩ := bytes_trod (hel i (by omega)).2
        exact ⟨(a', l', c'), fun _ => ⟨e1, e2⟩⟩
      · exact ⟨(none, [], 0), fun h => absurd h hi⟩
    refine ⟨_, _, _, fun i => Classical.choose (hq i), rfl, by unfold maxLen at hm; omega, fun i hi => ?_⟩
    have hs := Classical.choose_spec (hq i) hi
    have hc := (hel i (by omega)).1
    obtain ⟨b, off, spot⟩ := a
    have hspot : spot = none := by simpa [Addr.add] using World.cell?_spot (hel 0 (by omega)).1
    subst hspot
    rw [hs.1, Addr.add_lit] at hc
    exact ⟨b, off, rfl, cell_blk hc, hc, hs.2⟩
end Go.Proofs.Ytkhejipcclpknaa
