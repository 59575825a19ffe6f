/- Slices of ints and of bytes that come in. No statement is proved here. -/
import Derived.Test.YtkhejipcclpknaaSI
import Derived.WalkKit
import Derived.ProofKit
import Derived.OpenShut
import Derived.Below
import Derived.Carry
set_option linter.unusedVariables false
set_option linter.unusedSimpArgs false
namespace Go.Proofs.Ytkhejipcclpknaa
open Go.ChangeShapes Go.WideShapes Go.ChangeAt Go.RowKit

theorem cellsInt : Try.prog.cellsOf 3 = 1 := by kernel_rfl
theorem cellsByte : Try.prog.cellsOf 5 = 1 := by kernel_rfl
theorem cell_blk {w : World} {b i : Nat} {u : Value} (h : w.cell? ⟨b, i, none⟩ = some u) : b < w.heap.size := by
  by_cases hb : b < w.heap.size
  · exact hb
  · have e : w.heap[b]? = none := Array.getElem?_eq_none (by omega)
    simp [World.cell?, e] at h
def IntsIn (w : World) (a : Option Addr) (len : Nat) (xs : Nat → Int) : Prop := len ≤ 9223372036854775807 ∧ ∀ i, i < len → ∃ b off, a = some ⟨b, off, none⟩ ∧ b < w.heap.size ∧ w.cell? ⟨b, off + i, none⟩ = some (.int .i64 (xs i)) ∧ -9223372036854775808 ≤ xs i ∧ xs i ≤ 9223372036854775807
set_option maxRecDepth 100000 in
theorem ints_in {H : Type} {enc : TypeId × Value → H} {W : World} {base : Nat} {v : Value} {d : DataW H} {ps : List MemPlace} (hv : Value.okWide Try.prog W .any base 37 v)
    (h : DataW.Trod enc Try.prog W 0 (fun _ => true) true 37 v d ps) : ∃ a len cap xs, v = .slice a len cap ∧ IntsIn W a len xs := by
  obtain ⟨a0, len, cap, rfl⟩ := okWide_slice Try.underlying37 hv
  obtain ⟨fuel, hf⟩ := h
  rcases open_ints Try.underlying37 Try.underlying3 cellsInt hf with ⟨hcs, hx⟩ | ⟨a, len', cap', zs, hcs, _, hl, hm, hz, hx, hcell, hwz⟩
  · simp [Value.cells] at hcs
    obtain ⟨rfl, rfl, rfl⟩ := hcs
    exact ⟨_, _, _, fun _ => 0, rfl, by omega, fun i hi => by omega⟩
  · simp [Value.cells] at hcs
    obtain ⟨rfl, rfl, rfl⟩ := hcs
    simp only [if_true] at hz
    refine ⟨_, _, _, fun i => zs.getD i 0, rfl, by unfold maxLen at hm; omega, fun i hi => ?_⟩
    obtain ⟨b, off, rfl, hc⟩ := ints_at hcell (by omega)
    have hci := hc i (by omega)
    have hw : (Lit.int .i64 (zs.getD i 0)).wf = true := hwz _ (by
      rw [List.getD_eq_getElem?_getD, List.getElem?_eq_getElem (by omega)]
      exact List.getElem_mem _)
    have hbd := bounds_i64 hw
    exact ⟨b, off, rfl, cell_blk hci, hci, hbd.1, hbd.2⟩
set_option maxRecDepth 100000 in
/-- Bytes that came in: where they lie, how many there may be, what they are. -/
theorem bytes_in {H : Type} {enc : TypeId × Value → H} {W : World} {base : Nat} {v : Value} {d : DataW H} {ps : List MemPlace} (hv : Value.okWide Try.prog W .any base 22 v)
    (h : DataW.Trod enc Try.prog W 0 (fun _ => true) true 22 v d ps) : ∃ a cap l, v = .slice a l.length cap ∧ BytesIn W a l ∧ l.length ≤ cap ∧ (cap ≠ 0 → ∃ b off, a = some ⟨b, off, none⟩) ∧ (∀ x ∈ l, 0 ≤ x ∧ x ≤ 255) ∧ l.length ≤ maxLen := by
  obtain ⟨a0, len, cap, rfl⟩ := okWide_slice Try.underlying22 hv
  obtain ⟨fuel, hf⟩ := h
  rcases open_ints Try.underlying22 Try.underlying5 cellsByte hf with ⟨hcs, hx⟩ | ⟨a, len', cap', zs, hcs, _, hl, hm, hz, hx, hcell, hwz⟩
  · simp [Value.cells] at hcs
    obtain ⟨rfl, rfl, rfl⟩ := hcs
    exact ⟨_, _, [], rfl, fun h => absurd rfl h, Nat.le_refl _, fun h => absurd rfl h, fun x hx => (by cases hx), Nat.zero_le _⟩
  · simp [Value.cells] at hcs
    obtain ⟨rfl, rfl, rfl⟩ := hcs
    simp only [if_true] at hz
    have hlen : (zs.take len).length = len := by rw [List.length_take]; omega
    refine ⟨_, cap, zs.take len, by rw [hlen], fun hne => ?_, by rw [hlen]; exact hl, fun hc0 => ?_, fun x hx => bounds_u8 (hwz x (List.mem_of_mem_take hx)), by rw [hlen]; exact Nat.le_trans hl hm⟩
    · have hp : 0 < len := by
        have := List.length_pos_iff.2 hne
        omega
      obtain ⟨b, off, rfl, hc⟩ := ints_at hcell (show 0 < zs.length by omega)
      refine ⟨b, off, rfl, cell_blk (hc 0 (by omega)), fun i hi => ?_⟩
      have hi' : i < len := by omega
      have := hc i (by omega)
      rw [List.getElem_take]
      rw [List.getD_eq_getElem?_getD, List.getElem?_eq_getElem (by omega)] at this
      exact this
    · obtain ⟨b, off, rfl, _⟩ := ints_at hcell (show 0 < zs.length by omega)
      exact ⟨b, off, rfl⟩
end Go.Proofs.Ytkhejipcclpknaa
