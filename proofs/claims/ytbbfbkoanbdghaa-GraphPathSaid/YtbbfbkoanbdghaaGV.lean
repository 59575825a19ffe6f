/- The walk of GraphPath. No statement is proved here. -/
import Derived.Test.YtbbfbkoanbdghaaGU
import Derived.Test.YtbbfbkoanbdghaaGL
set_option linter.unusedVariables false
set_option linter.unusedSimpArgs false
namespace Go.Proofs.Ytbbfbkoanbdghaa
open Go.RowKit

section
variable {es : List E} {N x y : Nat} {mask : Int} {D D' : Nat → Int} {p l l' : List Nat}
theorem way_of_best (hD : IsDist es N mask y D) (hok : ∀ e ∈ es, okE N e) (hx : x < N) (hy : y < N) (h0 : 0 ≤ bestE D mask (rowE es N x)) : WayI es N mask (x : Int) (y : Int) := by
  have n1 : nodeB N (x : Int) = true := by simp [nodeB]; omega
  have n2 : nodeB N (y : Int) = true := by simp [nodeB]; omega
  refine ⟨n1, n2, ?_⟩
  rw [Int.toNat_natCast, Int.toNat_natCast, way_iff hD hok]
  obtain ⟨e, he, h⟩ := (bestE_pos D mask _ (fun e he => (hok e (out_mem hx he).1).2.2.1)).1 h0
  exact ⟨e, (out_mem hx he).1, (out_mem hx he).2, h⟩
theorem run_tail (hD : IsDist es N mask y D) (hok : ∀ e ∈ es, okE N e) (hy : y < N) (h : Run (nxt es N mask D) y x p) (F : RunFacts es N mask y D x p) (hL : 2 < p.length) :
    ∃ l, p = x :: l ∧ Run (nxt es N mask D) y (nxt es N mask D x) l ∧ WayI es N mask (nxt es N mask D x : Int) (y : Int) ∧ nxt es N mask D x < N := by
  cases h with
  | stop _ _ => simp at hL
  | go _ l hn r =>
    have hN := F.all 1 _ F.one
    have hd := F.dist 0 _ F.one
    obtain ⟨h1, _⟩ := nxt_down hD hok hN (by omega)
    exact ⟨l, rfl, r, way_of_best hD hok hN hy h1, hN⟩
theorem run_same (hD : IsDist es N mask y D) (hD' : IsDist es N mask y D') (hok : ∀ e ∈ es, okE N e) (h : Run (nxt es N mask D) y x l) (h' : Run (nxt es N mask D') y x l') (hl : ∀ z ∈ l, z < N) : l' = l := by
  refine Run.uniq (N := 0) h (fun z hz => ?_) h'
  unfold nxt
  rw [bestE_congr mask N (fun u hu => hD.uniq hD' u hu) _ fun e he => ?_]
  have := hok e (out_mem (hl z hz) he).1
  exact ⟨this.2.2.1, this.2.2.2.1⟩
theorem RunFacts.ne (F : RunFacts es N mask y D x p) {i k u v : Nat} (hk : 1 ≤ k) (hki : k < i) (h1 : p[k]? = some u) (h2 : p[i]? = some v) : u ≠ v := by
  obtain ⟨k, rfl⟩ : ∃ c, k = c + 1 := ⟨k - 1, by omega⟩
  obtain ⟨i, rfl⟩ : ∃ c, i = c + 1 := ⟨i - 1, by omega⟩
  have := F.dist k u h1
  have := F.dist i v h2
  intro e
  subst e
  omega
theorem RunFacts.len (hD : IsDist es N mask y D) (F : RunFacts es N mask y D x p) : p.length ≤ N + 1 := by
  have := F.dist 0 _ F.one
  have := hD.lt (F.all 1 _ F.one)
  omega
theorem no_hit {ss : List E} (hp : ss.Perm es) (hD : nodeB N (x : Int) = true → nodeB N (y : Int) = true → ∃ D, IsDist es N mask (y : Int).toNat D) (hx : x < N) (hy : y < N) (hw : ¬ WayI es N mask (x : Int) (y : Int)) : ¬ ∃ e ∈ ss, Hit (x : Int) (y : Int) mask e := by
  rintro ⟨e, he, h1, h2, h3⟩
  have n1 : nodeB N (x : Int) = true := by simp [nodeB]; omega
  have n2 : nodeB N (y : Int) = true := by simp [nodeB]; omega
  exact hw ⟨n1, n2, by
    have := hD n1 n2
    rw [Int.toNat_natCast] at this ⊢
    rw [Int.toNat_natCast]
    exact way_edge this (hp.mem_iff.1 he) h1 h2 h3⟩
theorem hit_edge {ss : List E} (hp : ss.Perm es) (h : Edge es mask x y) : ∃ e ∈ ss, Hit (x : Int) (y : Int) mask e := by
  obtain ⟨e, he, h⟩ := h
  exact ⟨e, hp.mem_iff.2 he, h⟩
theorem q_iin {w : World} {d B : Nat} {v : Value} (h : QOwn w d B v p) (hne : p ≠ []) : ∃ b off cap, v = .slice (some ⟨b, off, none⟩) p.length cap ∧ p.length ≤ cap ∧ b < w.heap.size ∧ cap ≤ maxLen ∧ ∀ (i u : Nat), p[i]? = some u → w.cell? ⟨b, off + i, none⟩ = some (.int .i64 (u : Int)) := by
  obtain ⟨b, off, cap, cs, rfl, _, _, hb, hlc, hcm, _, hc⟩ := h
  refine ⟨b, off, cap, rfl, hlc, blk_lt hb, hcm, fun i u hu => ?_⟩
  obtain ⟨hi, rfl⟩ := List.getElem?_eq_some_iff.1 hu
  exact (blk_cell hb (off + i)).trans (hc i hi)
end
end Go.Proofs.Ytbbfbkoanbdghaa
