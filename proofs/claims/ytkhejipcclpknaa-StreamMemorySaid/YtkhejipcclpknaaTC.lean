/- A writer's rows grow: a block is noted, bytes are taken. No statement is proved here. -/
import Derived.Test.YtkhejipcclpknaaTB
import Derived.Test.YtkhejipcclpknaaSR
set_option linter.unusedVariables false
set_option linter.unusedSimpArgs false
namespace Go.Proofs.Ytkhejipcclpknaa
open Go.RowKit

theorem own_slc {w : World} {B : Nat} {e : TypeId} {size : Nat} {v : Value} {n : Nat} {xs : List Value} (h : w.ownsRow B e size v n xs) : ∃ a cap, v = .slice a n cap := by
  rcases h.2 with ⟨rfl, rfl⟩ | ⟨b, cap, cur, rfl, _⟩
  · exact ⟨_, _, rfl⟩
  · exact ⟨_, _, rfl⟩
/-- A block is noted: what stands behind region 9's append. -/
structure BlockRun (w : World) (p g s b : Nat) (o o' : Option Nat) (W : Wt) (ty : TypeId) (vb v' : Value) (w1 : World) (o1' : Option Nat) : Prop where
  c0 : w.cell? ⟨p, 4, none⟩ = some vb
  run : (Builtin.append_ #[37, 37] ty #[vb, .slice (some ⟨w.heap.size, 0, none⟩) 1 1]).run Try.prog (w.alloc (.cells #[.int .i64 (b : Int)] 3)).drew = .ok v' w1
  fr : w1.frozen? ⟨p, 4, none⟩ = false
  c1 : w1.cell? ⟨p, 4, none⟩ = some vb
  vs : ∃ av cv, v' = .slice av (W.blocks.length + 1) cv
  wt : WtM (w1.setCell ⟨p, 4, none⟩ v') p g s o o1' { W with blocks := W.blocks ++ [b] }
  hr : Heir w o' o1'
  up : Upd (wS p o o') w (w1.setCell ⟨p, 4, none⟩ v')
theorem block_run {w : World} {p g s : Nat} {o o' : Option Nat} {W : Wt} (h : WtM w p g s o o' W) (b : Nat) (ty : TypeId) (hl : W.blocks.length ≤ 1000000) : ∃ vb v' w1 o1', BlockRun w p g s b o o' W ty vb v' w1 o1' := by
  obtain ⟨ti, hi, hz0, hz1, hz2⟩ := info_parts infoI
  have hlt := h.lt
  obtain ⟨v, v0, e1, e2, h1, h2, h3⟩ := h.ex
  have hpl := blk_lt h1
  have hal := ((Below.refl _ w).alloc (Nat.le_refl _) (.cells #[.int .i64 (b : Int)] 3)).drew
  have hnew : (w.alloc (.cells #[.int .i64 (b : Int)] 3)).drew.heap[w.heap.size]? = some (.cells #[.int .i64 (b : Int)] 3 (0, 0)) := heap_alloc_new w _
  have h3' : (w.alloc (.cells #[.int .i64 (b : Int)] 3)).drew.ownsRow 0 3 1 v0 W.blocks.length (cellsN W.blocks) := own_same h3 fun k hk => hal.block k (hlt k (.inr (.inr (by rw [← e2]; exact hk))))
  obtain ⟨v', w1, k1, k2, k3, k4⟩ := run_append_own3 (w.alloc (.cells #[.int .i64 (b : Int)] 3)).drew 0 37 ty 3 ti (.int .i64 0) 1 8 Try.underlying37 hi hz0 hz1 hz2 rfl v0 _ _ h3' ⟨w.heap.size, 0, none⟩ 1 1 [.int .i64 (b : Int)] rfl (fun j u hj => by
    rw [Addr.add_lit, Nat.zero_add, blk_cell hnew]
    simpa using hj) (by simp [Value.oneCell']) (by unfold maxLen; omega) (by omega) (Nat.zero_le _)
  have hu1 : Upd (wS p o o') w w1 := (Upd.of_new hal).trans (Upd.of_grown k3) fun i _ hi => .inr (.inr (by rw [← e2]; exact hi))
  have hne : o' ≠ some p := h.ap.2.1
  have hp1 : w1.heap[p]? = some (.cells #[.pointer (some ⟨g, 0, none⟩), .pointer (some ⟨s, 0, none⟩), .int .i64 W.unit, v, v0, .int .i64 W.size, .int .i64 W.fault, .bool W.closed] 86 (0, 0)) :=
    ((Upd.of_grown k3).block p (Nat.lt_of_lt_of_le hpl hal.size) (by rw [e2]; exact hne)).trans ((hal.block p hpl).trans h1)
  have hob : v'.ownBlock = v0.ownBlock ∨ ∃ k, v'.ownBlock = some k ∧ w.heap.size ≤ k := by
    rcases k4 with k4 | ⟨k4, _⟩
    · exact .inl k4
    · exact .inr ⟨_, k4, hal.size⟩
  have hv'p : v'.ownBlock ≠ some p := by
    rcases hob with e | ⟨k, e, hk⟩
    · rw [e, e2]
      exact hne
    · rw [e]
      intro hh
      cases hh
      omega
  refine ⟨v0, v', w1, v'.ownBlock, (blk_cell h1 4).trans rfl, k1, blk_free hp1 4, (blk_cell hp1 4).trans rfl, own_slc k2, ⟨⟨v, v', e1, rfl, heap_setCell_same w1 p 4 _ _ v' hp1, ?_, ?_⟩, h.ap.1, hv'p, ?_⟩, ?_, ?_⟩
  · refine own_same h2 fun k hk => ?_
    have hko : o = some k := by rw [← e1]; exact hk
    have hkp : k ≠ p := fun e => h.ap.1 (by rw [hko, e])
    have hkl := hlt k (.inr (.inl hko))
    rw [Below.heap_setCell w1 ⟨p, 4, none⟩ v' k hkp]
    exact ((Upd.of_grown k3).block k (Nat.lt_of_lt_of_le hkl hal.size) (by rw [e2]; exact h.ap.2.2 k hko)).trans (hal.block k hkl)
  · have e3 : cellsN (W.blocks ++ [b]) = cellsN W.blocks ++ [.int .i64 (b : Int)] := by simp [cellsN]
    show (w1.setCell ⟨p, 4, none⟩ v').ownsRow 0 3 1 v' (W.blocks ++ [b]).length (cellsN (W.blocks ++ [b]))
    rw [e3, List.length_append]
    exact own_same k2 fun k hk => Below.heap_setCell w1 ⟨p, 4, none⟩ v' k fun e => hv'p (hk.trans (congrArg some e))
  · intro k hk hk'
    rcases hob with e | ⟨j, e, hj⟩
    · exact h.ap.2.2 k hk (by rw [← e2, ← e]; exact hk')
    · rw [e] at hk'
      cases hk'
      have := hlt k (.inr (.inl hk))
      omega
  · intro k hk
    rcases hob with e | ⟨j, e, hj⟩
    · exact .inl (by rw [← e2, ← e]; exact hk)
    · rw [e] at hk
      cases hk
      exact .inr hj
  · exact hu1.setCell (p := ⟨p, 4, none⟩) (fun _ => .inl rfl) v'
/-- Bytes are taken: what stands behind region 11's append. -/
structure BytesRun (w : World) (p g s : Nat) (o o' : Option Nat) (W : Wt) (ty : TypeId) (a : Addr) (k c : Nat) (l : List Int) (vb v' : Value) (w1 : World) (o1 : Option Nat) : Prop where
  c0 : w.cell? ⟨p, 3, none⟩ = some vb
  run : (Builtin.append_ #[22, 22] ty #[vb, .slice (some a) k c]).run Try.prog w.drew = .ok v' w1
  fr : w1.frozen? ⟨p, 3, none⟩ = false
  c1 : w1.cell? ⟨p, 3, none⟩ = some vb
  vs : ∃ av cv, v' = .slice av (W.buf.length + k) cv
  wt : WtM (w1.setCell ⟨p, 3, none⟩ v') p g s o1 o' { W with buf := W.buf ++ l }
  hr : Heir w o o1
  up : Upd (wS p o o') w (w1.setCell ⟨p, 3, none⟩ v')
theorem bytes_run {w : World} {p g s : Nat} {o o' : Option Nat} {W : Wt} (h : WtM w p g s o o' W) (ty : TypeId) (q off k c : Nat) (l : List Int) (hk : l.length = k) (hb : BytesAt w q off l) (hl : W.buf.length + k ≤ 1000000) : ∃ vb v' w1 o1, BytesRun w p g s o o' W ty ⟨q, off, none⟩ k c l vb v' w1 o1 := by
  obtain ⟨ti, hi, hz0, hz1, hz2⟩ := info_parts infoB
  have hlt := h.lt
  obtain ⟨v, v0, e1, e2, h1, h2, h3⟩ := h.ex
  have hpl := blk_lt h1
  have hal := ((Below.refl w.heap.size w)).drew
  have h2' : w.drew.ownsRow 0 5 1 v W.buf.length (cellsB W.buf) := own_same h2 fun k hk => rfl
  obtain ⟨v', w1, k1, k2, k3, k4⟩ := run_append_own3 w.drew 0 22 ty 5 ti (.int .u8 0) 1 1 Try.underlying22 hi hz0 hz1 hz2 rfl v _ _ h2' ⟨q, off, none⟩ k c (cellsB l) (by rw [cellsB_length, hk, Nat.mul_one]) (fun j u hj => by
    have hj' : j < l.length := by
      have := (List.getElem?_eq_some_iff.1 hj).1
      rwa [cellsB_length] at this
    rw [cellsB_get l j hj'] at hj
    rw [Addr.add_lit]
    exact (hb j hj').trans hj) (cellsB_one l) (by unfold maxLen; omega) (by omega) (Nat.zero_le _)
  have hu1 : Upd (wS p o o') w w1 := (Upd.of_new hal).trans (Upd.of_grown k3) fun i _ hi => .inr (.inl (by rw [← e1]; exact hi))
  have hne : o ≠ some p := h.ap.1
  have hp1 : w1.heap[p]? = some (.cells #[.pointer (some ⟨g, 0, none⟩), .pointer (some ⟨s, 0, none⟩), .int .i64 W.unit, v, v0, .int .i64 W.size, .int .i64 W.fault, .bool W.closed] 86 (0, 0)) :=
    ((Upd.of_grown k3).block p hpl (by rw [e1]; exact hne)).trans h1
  have hob : v'.ownBlock = v.ownBlock ∨ ∃ k, v'.ownBlock = some k ∧ w.heap.size ≤ k := by
    rcases k4 with k4 | ⟨k4, _⟩
    · exact .inl k4
    · exact .inr ⟨_, k4, Nat.le_refl _⟩
  have hv'p : v'.ownBlock ≠ some p := by
    rcases hob with e | ⟨k, e, hk⟩
    · rw [e, e1]
      exact hne
    · rw [e]
      intro hh
      cases hh
      omega
  refine ⟨v, v', w1, v'.ownBlock, (blk_cell h1 3).trans rfl, k1, blk_free hp1 3, (blk_cell hp1 3).trans rfl, own_slc k2, ⟨⟨v', v0, rfl, e2, heap_setCell_same w1 p 3 _ _ v' hp1, ?_, ?_⟩, hv'p, h.ap.2.1, ?_⟩, ?_, ?_⟩
  · have e3 : cellsB (W.buf ++ l) = cellsB W.buf ++ cellsB l := by simp [cellsB]
    show (w1.setCell ⟨p, 3, none⟩ v').ownsRow 0 5 1 v' (W.buf ++ l).length (cellsB (W.buf ++ l))
    rw [e3, List.length_append, hk]
    exact own_same k2 fun k hk => Below.heap_setCell w1 ⟨p, 3, none⟩ v' k fun e => hv'p (hk.trans (congrArg some e))
  · refine own_same h3 fun k hk => ?_
    have hko : o' = some k := by rw [← e2]; exact hk
    have hkp : k ≠ p := fun e => h.ap.2.1 (by rw [hko, e])
    have hkl := hlt k (.inr (.inr hko))
    rw [Below.heap_setCell w1 ⟨p, 3, none⟩ v' k hkp]
    exact (Upd.of_grown k3).block k hkl (by rw [e1]; exact fun e => h.ap.2.2 k e hko)
  · intro k hk hk'
    rcases hob with e | ⟨j, e, hj⟩
    · exact h.ap.2.2 k (by rw [← e1, ← e]; exact hk) hk'
    · rw [e] at hk
      cases hk
      have := hlt k (.inr (.inr hk'))
      omega
  · intro k hk
    rcases hob with e | ⟨j, e, hj⟩
    · exact .inl (by rw [← e1, ← e]; exact hk)
    · rw [e] at hk
      cases hk
      exact .inr hj
  · exact hu1.setCell (p := ⟨p, 3, none⟩) (fun _ => .inl rfl) v'
end Go.Proofs.Ytkhejipcclpknaa
