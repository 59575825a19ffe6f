/- A walk for components in memory: its numbers, its stack, its groups. No statement is proved here. -/
import Derived.Test.YtbbfbkoanbdghaaCA
import Derived.Test.YtbbfbkoanbdghaaOB
set_option linter.unusedVariables false
set_option linter.unusedSimpArgs false
namespace Go.Proofs.Ytbbfbkoanbdghaa
open Go.RowKit

theorem infoSI : (Try.prog.info? 38).map (fun i => (i.zero, i.size, i.bytes)) = some (some (.slice none 0 0), 1, 24) := by kernel_rfl
theorem infoBo : (Try.prog.info? 4).map (fun i => (i.zero, i.size, i.bytes)) = some (some (.bool false), 1, 1) := by kernel_rfl
def BoolRow (w : World) (d N : Nat) (D : Nat → Bool) : Prop := ∃ cur : Array Value, w.heap[d]? = some (.cells cur 4 (0, 0)) ∧ cur.size = N ∧ ∀ i, i < N → cur[i]? = some (.bool (D i))
section
variable {w w' : World} {d N B : Nat} {D : Nat → Bool}
theorem BoolRow.cell (h : BoolRow w d N D) {i : Nat} (hi : i < N) : w.cell? ⟨d, i, none⟩ = some (.bool (D i)) := by
  obtain ⟨cur, h1, _, h3⟩ := h
  exact (blk_cell h1 i).trans (h3 i hi)
theorem BoolRow.free (h : BoolRow w d N D) (i : Nat) : w.frozen? ⟨d, i, none⟩ = false := by
  obtain ⟨cur, h1, _⟩ := h
  exact blk_free h1 i
theorem BoolRow.lt (h : BoolRow w d N D) : d < w.heap.size := by
  obtain ⟨cur, h1, _⟩ := h
  exact blk_lt h1
theorem BoolRow.kept (h : BoolRow w d N D) (hb : w'.heap[d]? = w.heap[d]?) : BoolRow w' d N D := by
  obtain ⟨cur, h1, r⟩ := h
  exact ⟨cur, hb.trans h1, r⟩
theorem BoolRow.set (h : BoolRow w d N D) {i : Nat} (hi : i < N) (c : Bool) : BoolRow (w.setCell ⟨d, i, none⟩ (.bool c)) d N (upd D i c) := by
  obtain ⟨cur, h1, h2, h3⟩ := h
  refine ⟨_, heap_setCell_same w d i _ _ _ h1, by rw [Array.size_setIfInBounds]; exact h2, fun j hj => ?_⟩
  rw [Array.getElem?_setIfInBounds]
  by_cases e : i = j
  · subst e
    rw [if_pos rfl, if_pos (by omega), upd_same]
  · rw [if_neg e, upd_other (fun e' => e e'.symm)]
    exact h3 j hj
theorem BoolRow.ext {D' : Nat → Bool} (h : BoolRow w d N D) (he : ∀ i, i < N → D i = D' i) : BoolRow w d N D' := by
  obtain ⟨cur, h1, h2, h3⟩ := h
  exact ⟨cur, h1, h2, fun i hi => by rw [← he i hi]; exact h3 i hi⟩
end
abbrev OwnV (w : World) (B : Nat) (v : Value) (xs : List Value) : Prop := w.ownsRow B 38 1 v xs.length xs
structure TV where
  cnt : Nat
  seen : Nat → Nat
  low : Nat → Nat
  on : Nat → Bool
  stk : List Nat
  fnd : List (List Nat)
  vS : Value
  vF : Value
  vals : List Value
def tcells (g : Nat) (mask : Int) (sb lb ob N : Nat) (v : TV) : Array Value := #[.pointer (some ⟨g, 0, none⟩), .int .i64 mask, .slice (some ⟨sb, 0, none⟩) N N, .slice (some ⟨lb, 0, none⟩) N N, v.vS, .slice (some ⟨ob, 0, none⟩) N N, .int .i64 (v.cnt : Int), v.vF]
structure TM (B : Nat) (w : World) (t g sb lb ob : Nat) (mask : Int) (N : Nat) (v : TV) : Prop where
  ht : w.heap[t]? = some (.cells (tcells g mask sb lb ob N v) 77 (0, 0))
  sn : IntRow w sb N (fun y => (v.seen y : Int))
  lw : IntRow w lb N (fun y => (v.low y : Int))
  on : BoolRow w ob N v.on
  st : OwnN w B v.vS v.stk.reverse
  fd : OwnV w B v.vF v.vals
  ln : v.vals.length = v.fnd.length
  gr : ∀ (i : Nat) u l, v.vals[i]? = some u → v.fnd[i]? = some l → OwnN w B u l
  ap : t ≠ sb ∧ t ≠ lb ∧ t ≠ ob ∧ sb ≠ lb ∧ sb ≠ ob ∧ lb ≠ ob
  aS : ∀ k, v.vS.ownBlock = some k → k ≠ t ∧ k ≠ sb ∧ k ≠ lb ∧ k ≠ ob
  aF : ∀ k, v.vF.ownBlock = some k → k ≠ t ∧ k ≠ sb ∧ k ≠ lb ∧ k ≠ ob ∧ v.vS.ownBlock ≠ some k
  aG : ∀ (i : Nat) u, v.vals[i]? = some u → ∀ k, u.ownBlock = some k → k ≠ t ∧ k ≠ sb ∧ k ≠ lb ∧ k ≠ ob ∧ v.vS.ownBlock ≠ some k ∧ v.vF.ownBlock ≠ some k
  pr : ∀ (i j : Nat) u u', i ≠ j → v.vals[i]? = some u → v.vals[j]? = some u' → ∀ k, u.ownBlock = some k → u'.ownBlock ≠ some k
  base : B ≤ t ∧ B ≤ sb ∧ B ≤ lb ∧ B ≤ ob
/-- The blocks that a walk for components writes. -/
def TB (t sb lb ob : Nat) (vS vF : Value) (k : Nat) : Prop := k = t ∨ k = sb ∨ k = lb ∨ k = ob ∨ vS.ownBlock = some k ∨ vF.ownBlock = some k
theorem own_other {w : World} {B : Nat} {e : TypeId} {sz n : Nat} {v : Value} {xs : List Value} (h : w.ownsRow B e sz v n xs) (b i : Nat) (u : Value) (hb : v.ownBlock ≠ some b) : (w.setCell ⟨b, i, none⟩ u).ownsRow B e sz v n xs := h.kept (grownBy_setAt w b i u) (.inr hb)
section
variable {B : Nat} {w w' : World} {t g sb lb ob : Nat} {mask : Int} {N : Nat} {v : TV}
theorem TM.cells (h : TM B w t g sb lb ob mask N v) (i : Nat) : w.cell? ⟨t, i, none⟩ = (tcells g mask sb lb ob N v)[i]? := blk_cell h.ht i
theorem TM.c0 (h : TM B w t g sb lb ob mask N v) : w.cell? ⟨t, 0, none⟩ = some (.pointer (some ⟨g, 0, none⟩)) := h.cells 0
theorem TM.c1 (h : TM B w t g sb lb ob mask N v) : w.cell? ⟨t, 1, none⟩ = some (.int .i64 mask) := h.cells 1
theorem TM.c2 (h : TM B w t g sb lb ob mask N v) : w.cell? ⟨t, 2, none⟩ = some (.slice (some ⟨sb, 0, none⟩) N N) := h.cells 2
theorem TM.c3 (h : TM B w t g sb lb ob mask N v) : w.cell? ⟨t, 3, none⟩ = some (.slice (some ⟨lb, 0, none⟩) N N) := h.cells 3
theorem TM.c4 (h : TM B w t g sb lb ob mask N v) : w.cell? ⟨t, 4, none⟩ = some v.vS := h.cells 4
theorem TM.c5 (h : TM B w t g sb lb ob mask N v) : w.cell? ⟨t, 5, none⟩ = some (.slice (some ⟨ob, 0, none⟩) N N) := h.cells 5
theorem TM.c6 (h : TM B w t g sb lb ob mask N v) : w.cell? ⟨t, 6, none⟩ = some (.int .i64 (v.cnt : Int)) := h.cells 6
theorem TM.c7 (h : TM B w t g sb lb ob mask N v) : w.cell? ⟨t, 7, none⟩ = some v.vF := h.cells 7
theorem TM.lt (h : TM B w t g sb lb ob mask N v) : t < w.heap.size := blk_lt h.ht
theorem TM.tb_lt (h : TM B w t g sb lb ob mask N v) {k : Nat} (hk : TB t sb lb ob v.vS v.vF k) : B ≤ k ∧ k < w.heap.size := by
  rcases hk with rfl | rfl | rfl | rfl | hk | hk
  · exact ⟨h.base.1, h.lt⟩
  · exact ⟨h.base.2.1, h.sn.lt⟩
  · exact ⟨h.base.2.2.1, h.lw.lt⟩
  · exact ⟨h.base.2.2.2, h.on.lt⟩
  · exact h.st.lt k hk
  · exact h.fd.lt k hk
theorem TM.grp_lt (h : TM B w t g sb lb ob mask N v) {i k : Nat} {u : Value} (hu : v.vals[i]? = some u) (hk : u.ownBlock = some k) : B ≤ k ∧ k < w.heap.size := by
  obtain ⟨l, hl⟩ : ∃ l, v.fnd[i]? = some l := ⟨_, List.getElem?_eq_getElem (by rw [← h.ln]; exact (List.getElem?_eq_some_iff.1 hu).1)⟩
  exact (h.gr i u l hu hl).lt k hk
/-- What is new, or lies elsewhere, changes nothing. -/
theorem own_keep {w w' : World} {B : Nat} {e : TypeId} {sz n : Nat} {v : Value} {xs : List Value} (h : w.ownsRow B e sz v n xs) (hb : ∀ k, v.ownBlock = some k → w'.heap[k]? = w.heap[k]?) : w'.ownsRow B e sz v n xs := by
  refine ⟨h.1, ?_⟩
  rcases h.2 with hn | ⟨g, cap, cur, rfl, hB, hgg, rest⟩
  · exact .inl hn
  · exact .inr ⟨g, cap, cur, rfl, hB, (hb g rfl).trans hgg, rest⟩
theorem TM.kept (h : TM B w t g sb lb ob mask N v) (hb : ∀ k, k < w.heap.size → (TB t sb lb ob v.vS v.vF k ∨ ∃ (i : Nat) (u : Value), v.vals[i]? = some u ∧ u.ownBlock = some k) → w'.heap[k]? = w.heap[k]?) : TM B w' t g sb lb ob mask N v :=
  ⟨(hb t h.lt (.inl (.inl rfl))).trans h.ht, h.sn.kept (hb sb h.sn.lt (.inl (.inr (.inl rfl)))), h.lw.kept (hb lb h.lw.lt (.inl (.inr (.inr (.inl rfl))))), h.on.kept (hb ob h.on.lt (.inl (.inr (.inr (.inr (.inl rfl)))))),
    own_keep h.st fun k hk => hb k (h.st.lt k hk).2 (.inl (.inr (.inr (.inr (.inr (.inl hk)))))), own_keep h.fd fun k hk => hb k (h.fd.lt k hk).2 (.inl (.inr (.inr (.inr (.inr (.inr hk)))))), h.ln,
    fun i u l hu hl => own_keep (h.gr i u l hu hl) fun k hk => hb k (h.grp_lt hu hk).2 (.inr ⟨i, u, hu, hk⟩), h.ap, h.aS, h.aF, h.aG, h.pr, h.base⟩
theorem TM.below (h : TM B w t g sb lb ob mask N v) (hb : Below w.heap.size w w') : TM B w' t g sb lb ob mask N v := h.kept fun k hk _ => hb.block k hk
theorem TM.onExt {on' : Nat → Bool} (h : TM B w t g sb lb ob mask N v) (he : ∀ y, y < N → v.on y = on' y) : TM B w t g sb lb ob mask N { v with on := on' } :=
  ⟨h.ht, h.sn, h.lw, h.on.ext he, h.st, h.fd, h.ln, h.gr, h.ap, h.aS, h.aF, h.aG, h.pr, h.base⟩
theorem TM.setCnt (h : TM B w t g sb lb ob mask N v) (n : Nat) : TM B (w.setCell ⟨t, 6, none⟩ (.int .i64 (n : Int))) t g sb lb ob mask N { v with cnt := n } := by
  obtain ⟨a1, a2, a3, a4, a5, a6⟩ := h.ap
  have ne : ∀ k, k ≠ t → (w.setCell ⟨t, 6, none⟩ (.int .i64 (n : Int))).heap[k]? = w.heap[k]? := fun k hk => Below.heap_setCell w ⟨t, 6, none⟩ _ k hk
  refine ⟨?_, h.sn.kept (ne sb (Ne.symm a1)), h.lw.kept (ne lb (Ne.symm a2)), h.on.kept (ne ob (Ne.symm a3)), own_other h.st t 6 _ (fun e => (h.aS t e).1 rfl), own_other h.fd t 6 _ (fun e => (h.aF t e).1 rfl), h.ln, fun i u l hu hl => own_other (h.gr i u l hu hl) t 6 _ (fun e => (h.aG i u hu t e).1 rfl), h.ap, h.aS, h.aF, h.aG, h.pr, h.base⟩
  rw [heap_setCell_same w t 6 _ _ _ h.ht]
  rfl
theorem TM.setSeen (h : TM B w t g sb lb ob mask N v) {x : Nat} (hx : x < N) (n : Nat) : TM B (w.setCell ⟨sb, x, none⟩ (.int .i64 (n : Int))) t g sb lb ob mask N { v with seen := upd v.seen x n } := by
  obtain ⟨a1, a2, a3, a4, a5, a6⟩ := h.ap
  have ne : ∀ k, k ≠ sb → (w.setCell ⟨sb, x, none⟩ (.int .i64 (n : Int))).heap[k]? = w.heap[k]? := fun k hk => Below.heap_setCell w ⟨sb, x, none⟩ _ k hk
  refine ⟨(ne t a1).trans h.ht, (h.sn.set hx n).ext fun y _ => ?_, h.lw.kept (ne lb (Ne.symm a4)), h.on.kept (ne ob (Ne.symm a5)), own_other h.st sb x _ (fun e => (h.aS sb e).2.1 rfl), own_other h.fd sb x _ (fun e => (h.aF sb e).2.1 rfl), h.ln, fun i u l hu hl => own_other (h.gr i u l hu hl) sb x _ (fun e => (h.aG i u hu sb e).2.1 rfl), h.ap, h.aS, h.aF, h.aG, h.pr, h.base⟩
  show upd (fun y => (v.seen y : Int)) x (n : Int) y = ((upd v.seen x n y : Nat) : Int)
  by_cases e : y = x
  · rw [e, upd_same, upd_same]
  · rw [upd_other e, upd_other e]
theorem TM.setLow (h : TM B w t g sb lb ob mask N v) {x : Nat} (hx : x < N) (n : Nat) : TM B (w.setCell ⟨lb, x, none⟩ (.int .i64 (n : Int))) t g sb lb ob mask N { v with low := upd v.low x n } := by
  obtain ⟨a1, a2, a3, a4, a5, a6⟩ := h.ap
  have ne : ∀ k, k ≠ lb → (w.setCell ⟨lb, x, none⟩ (.int .i64 (n : Int))).heap[k]? = w.heap[k]? := fun k hk => Below.heap_setCell w ⟨lb, x, none⟩ _ k hk
  refine ⟨(ne t a2).trans h.ht, h.sn.kept (ne sb a4), (h.lw.set hx n).ext fun y _ => ?_, h.on.kept (ne ob (Ne.symm a6)), own_other h.st lb x _ (fun e => (h.aS lb e).2.2.1 rfl), own_other h.fd lb x _ (fun e => (h.aF lb e).2.2.1 rfl), h.ln, fun i u l hu hl => own_other (h.gr i u l hu hl) lb x _ (fun e => (h.aG i u hu lb e).2.2.1 rfl), h.ap, h.aS, h.aF, h.aG, h.pr, h.base⟩
  show upd (fun y => (v.low y : Int)) x (n : Int) y = ((upd v.low x n y : Nat) : Int)
  by_cases e : y = x
  · rw [e, upd_same, upd_same]
  · rw [upd_other e, upd_other e]
theorem TM.setOn (h : TM B w t g sb lb ob mask N v) {x : Nat} (hx : x < N) (b : Bool) : TM B (w.setCell ⟨ob, x, none⟩ (.bool b)) t g sb lb ob mask N { v with on := upd v.on x b } := by
  obtain ⟨a1, a2, a3, a4, a5, a6⟩ := h.ap
  have ne : ∀ k, k ≠ ob → (w.setCell ⟨ob, x, none⟩ (.bool b)).heap[k]? = w.heap[k]? := fun k hk => Below.heap_setCell w ⟨ob, x, none⟩ _ k hk
  exact ⟨(ne t a3).trans h.ht, h.sn.kept (ne sb a5), h.lw.kept (ne lb a6), h.on.set hx b, own_other h.st ob x _ (fun e => (h.aS ob e).2.2.2 rfl), own_other h.fd ob x _ (fun e => (h.aF ob e).2.2.2.1 rfl), h.ln, fun i u l hu hl => own_other (h.gr i u l hu hl) ob x _ (fun e => (h.aG i u hu ob e).2.2.2.1 rfl), h.ap, h.aS, h.aF, h.aG, h.pr, h.base⟩
/-- The stack's slice turned: in its block, or in a new one. -/
theorem TM.setStk (h : TM B w t g sb lb ob mask N v) {v' : Value} {l : List Nat} (hg : w.grownBy w' v.vS.ownBlock) (ho : OwnN w' B v' l.reverse) (hv : v'.ownBlock = v.vS.ownBlock ∨ v'.ownBlock = some w.heap.size) : TM B (w'.setCell ⟨t, 4, none⟩ v') t g sb lb ob mask N { v with vS := v', stk := l } := by
  obtain ⟨a1, a2, a3, a4, a5, a6⟩ := h.ap
  have hk : ∀ k, k < w.heap.size → k ≠ t → v.vS.ownBlock ≠ some k → (w'.setCell ⟨t, 4, none⟩ v').heap[k]? = w.heap[k]? := fun k h1 h2 h3 => (Below.heap_setCell w' ⟨t, 4, none⟩ _ k h2).trans (hg.block k h1 (fun e => h3 e.symm))
  have htw : w'.heap[t]? = w.heap[t]? := hg.block t h.lt (fun e => (h.aS t e.symm).1 rfl)
  have hnew : ∀ k, k < w.heap.size → v.vS.ownBlock ≠ some k → v'.ownBlock ≠ some k := fun k h1 h2 h3 => by
    rcases hv with e | e
    · exact h2 (e ▸ h3)
    · rw [e] at h3; cases h3; exact Nat.lt_irrefl _ h1
  refine ⟨?_, h.sn.kept (hk sb h.sn.lt (Ne.symm a1) (fun e => (h.aS sb e).2.1 rfl)), h.lw.kept (hk lb h.lw.lt (Ne.symm a2) (fun e => (h.aS lb e).2.2.1 rfl)), h.on.kept (hk ob h.on.lt (Ne.symm a3) (fun e => (h.aS ob e).2.2.2 rfl)), own_other ho t 4 _ (fun e => hnew t h.lt (fun e2 => (h.aS t e2).1 rfl) e),
    own_keep h.fd fun k e => hk k (h.fd.lt k e).2 (h.aF k e).1 (h.aF k e).2.2.2.2, h.ln, fun i u l' hu hl => own_keep (h.gr i u l' hu hl) fun k e => hk k (h.grp_lt hu e).2 (h.aG i u hu k e).1 (h.aG i u hu k e).2.2.2.2.1, h.ap, fun k e => ?_, fun k e => ⟨(h.aF k e).1, (h.aF k e).2.1, (h.aF k e).2.2.1, (h.aF k e).2.2.2.1, hnew k (h.fd.lt k e).2 (h.aF k e).2.2.2.2⟩,
    fun i u hu k e => ⟨(h.aG i u hu k e).1, (h.aG i u hu k e).2.1, (h.aG i u hu k e).2.2.1, (h.aG i u hu k e).2.2.2.1, hnew k (h.grp_lt hu e).2 (h.aG i u hu k e).2.2.2.2.1, (h.aG i u hu k e).2.2.2.2.2⟩, h.pr, h.base⟩
  · rw [heap_setCell_same w' t 4 _ _ _ (htw.trans h.ht)]
    rfl
  · rcases hv with e2 | e2
    · exact h.aS k (e2 ▸ e)
    · have e : v'.ownBlock = some k := e
      rw [e2] at e
      cases e
      exact ⟨fun hh => Nat.lt_irrefl _ (hh ▸ h.lt), fun hh => Nat.lt_irrefl _ (hh ▸ h.sn.lt), fun hh => Nat.lt_irrefl _ (hh ▸ h.lw.lt), fun hh => Nat.lt_irrefl _ (hh ▸ h.on.lt)⟩
/-- A group put behind the others. -/
theorem TM.setFnd (h : TM B w t g sb lb ob mask N v) {v' u : Value} {gr : List Nat} (hg : w.grownBy w' v.vF.ownBlock) (ho : OwnV w' B v' (v.vals ++ [u])) (hv : v'.ownBlock = v.vF.ownBlock ∨ v'.ownBlock = some w.heap.size) (hu : OwnN w B u gr)
    (hn : ∀ k, u.ownBlock = some k → ¬ TB t sb lb ob v.vS v.vF k ∧ ∀ (i : Nat) (u' : Value), v.vals[i]? = some u' → u'.ownBlock ≠ some k) : TM B (w'.setCell ⟨t, 7, none⟩ v') t g sb lb ob mask N { v with vF := v', fnd := v.fnd ++ [gr], vals := v.vals ++ [u] } := by
  obtain ⟨a1, a2, a3, a4, a5, a6⟩ := h.ap
  have hk : ∀ k, k < w.heap.size → k ≠ t → v.vF.ownBlock ≠ some k → (w'.setCell ⟨t, 7, none⟩ v').heap[k]? = w.heap[k]? := fun k h1 h2 h3 => (Below.heap_setCell w' ⟨t, 7, none⟩ _ k h2).trans (hg.block k h1 (fun e => h3 e.symm))
  have htw : w'.heap[t]? = w.heap[t]? := hg.block t h.lt (fun e => (h.aF t e.symm).1 rfl)
  have hnew : ∀ k, k < w.heap.size → v.vF.ownBlock ≠ some k → v'.ownBlock ≠ some k := fun k h1 h2 h3 => by
    rcases hv with e | e
    · exact h2 (e ▸ h3)
    · rw [e] at h3; cases h3; exact Nat.lt_irrefl _ h1
  have hlast : ∀ (i : Nat) (u' : Value), (v.vals ++ [u])[i]? = some u' → v.vals[i]? = some u' ∨ (i = v.vals.length ∧ u' = u) := fun i u' hh => by
    by_cases h1 : i < v.vals.length
    · rw [List.getElem?_append_left h1] at hh
      exact .inl hh
    · rw [List.getElem?_append_right (by omega)] at hh
      have h2 : i - v.vals.length = 0 := by
        have := (List.getElem?_eq_some_iff.1 hh).1
        simpa using this
      rw [h2] at hh
      exact .inr ⟨by omega, by simpa using hh.symm⟩
  have hun : ∀ k, u.ownBlock = some k → k ≠ t ∧ k ≠ sb ∧ k ≠ lb ∧ k ≠ ob ∧ v.vS.ownBlock ≠ some k ∧ v.vF.ownBlock ≠ some k := fun k e =>
    ⟨fun hh => (hn k e).1 (.inl hh), fun hh => (hn k e).1 (.inr (.inl hh)), fun hh => (hn k e).1 (.inr (.inr (.inl hh))), fun hh => (hn k e).1 (.inr (.inr (.inr (.inl hh)))), fun hh => (hn k e).1 (.inr (.inr (.inr (.inr (.inl hh))))), fun hh => (hn k e).1 (.inr (.inr (.inr (.inr (.inr hh)))))⟩
  refine ⟨?_, h.sn.kept (hk sb h.sn.lt (Ne.symm a1) (fun e => (h.aF sb e).2.1 rfl)), h.lw.kept (hk lb h.lw.lt (Ne.symm a2) (fun e => (h.aF lb e).2.2.1 rfl)), h.on.kept (hk ob h.on.lt (Ne.symm a3) (fun e => (h.aF ob e).2.2.2.1 rfl)), own_keep h.st fun k e => hk k (h.st.lt k e).2 (h.aS k e).1 (fun e2 => (h.aF k e2).2.2.2.2 e),
    own_other ho t 7 _ (fun e => hnew t h.lt (fun e2 => (h.aF t e2).1 rfl) e), by simp [h.ln], fun i u' l' hu' hl => ?_, h.ap, h.aS, fun k e => ?_, fun i u' hu' k e => ?_, fun i j u1 u2 hij h1 h2 k e => ?_, h.base⟩
  · rw [heap_setCell_same w' t 7 _ _ _ (htw.trans h.ht)]
    rfl
  · rcases hlast i u' hu' with h1 | ⟨h1, rfl⟩
    · have hi : i < v.fnd.length := by rw [← h.ln]; exact (List.getElem?_eq_some_iff.1 h1).1
      have hl' : v.fnd[i]? = some l' := by
        have hl : (v.fnd ++ [gr])[i]? = some l' := hl
        rwa [List.getElem?_append_left hi] at hl
      exact own_keep (h.gr i u' l' h1 hl') fun k e => hk k (h.grp_lt h1 e).2 (h.aG i u' h1 k e).1 (h.aG i u' h1 k e).2.2.2.2.2
    · have hl' : l' = gr := by
        have hl : (v.fnd ++ [gr])[i]? = some l' := hl
        rw [h1, h.ln, List.getElem?_append_right (Nat.le_refl _), Nat.sub_self] at hl
        simpa using hl.symm
      subst hl'
      exact own_keep hu fun k e => hk k (hu.lt k e).2 (hun k e).1 (hun k e).2.2.2.2.2
  · have e : v'.ownBlock = some k := e
    rcases hv with e2 | e2
    · exact h.aF k (e2 ▸ e)
    · rw [e2] at e
      cases e
      exact ⟨fun hh => Nat.lt_irrefl _ (hh ▸ h.lt), fun hh => Nat.lt_irrefl _ (hh ▸ h.sn.lt), fun hh => Nat.lt_irrefl _ (hh ▸ h.lw.lt), fun hh => Nat.lt_irrefl _ (hh ▸ h.on.lt), fun hh => Nat.lt_irrefl _ (h.st.lt _ hh).2⟩
  · rcases hlast i u' hu' with h1 | ⟨h1, rfl⟩
    · obtain ⟨b1, b2, b3, b4, b5, b6⟩ := h.aG i u' h1 k e
      exact ⟨b1, b2, b3, b4, b5, hnew k (h.grp_lt h1 e).2 b6⟩
    · obtain ⟨b1, b2, b3, b4, b5, b6⟩ := hun k e
      exact ⟨b1, b2, b3, b4, b5, hnew k (hu.lt k e).2 b6⟩
  · rcases hlast i u1 h1 with h3 | ⟨h3, rfl⟩
    · rcases hlast j u2 h2 with h4 | ⟨h4, rfl⟩
      · exact h.pr i j u1 u2 hij h3 h4 k e
      · exact fun e2 => (hn k e2).2 i u1 h3 e
    · rcases hlast j u2 h2 with h4 | ⟨h4, rfl⟩
      · exact (hn k e).2 j u2 h4
      · exact absurd (h3.trans h4.symm) hij
end
theorem v_append {w : World} {B : Nat} {v : Value} {out : List Value} (h : OwnV w B v out) (hB : B ≤ w.heap.size) (x : Value) (hx : x.oneCell' = true) (ty : TypeId) (r : Nat) (hr : w.heap[r]? = some (.cells #[x] 38 (0, 0))) (hl : out.length ≤ 100000) :
    ∃ v' w', (Builtin.append_ #[47, 47] ty #[v, .slice (some ⟨r, 0, none⟩) 1 1]).run Try.prog w = .ok v' w' ∧ OwnV w' B v' (out ++ [x]) ∧ w.grownBy w' v.ownBlock ∧ (v'.ownBlock = v.ownBlock ∨ v'.ownBlock = some w.heap.size) := by
  obtain ⟨ti, hi, hz0, hz1, hz2⟩ := info_parts infoSI
  obtain ⟨v', w', h1, h2, h3, h4⟩ := run_append_own3 w B 47 ty 38 ti (.slice none 0 0) 1 24 Try.underlying47 hi hz0 hz1 hz2 rfl v _ _ h ⟨r, 0, none⟩ 1 1 [x] rfl (fun j u hj => by
    rw [Addr.add_lit, Nat.zero_add, blk_cell hr]
    simpa using hj) (by simpa using hx) (by unfold maxLen; omega) (by omega) hB
  refine ⟨v', w', h1, ?_, h3, h4.imp id fun h => h.1⟩
  show w'.ownsRow B 38 1 v' (out ++ [x]).length (out ++ [x])
  rw [List.length_append]
  exact h2
end Go.Proofs.Ytbbfbkoanbdghaa
