/- The document's Sort at fewer than two; parts of a slice of violations. No statement is proved here. -/
import Derived.Test.YtgimpkbknaopcaaVW
set_option linter.unusedVariables false
set_option linter.unusedSimpArgs false
namespace Go.Proofs.Ytgimpkbknaopcaa
open Go.RowKit

theorem VIn.take {w : World} {a : Option Addr} {l : List V} (h : VIn w a l) (k : Nat) : VIn w a (l.take k) := by
  intro hn
  have hl : l ≠ [] := by rintro rfl; simp at hn
  obtain ⟨b, o, rfl, hb, hc⟩ := h hl
  refine ⟨b, o, rfl, hb, fun i hi j hj => ?_⟩
  have hi' : i < l.length := by simp at hi; omega
  rw [hc i hi' j hj, List.getElem_take]
theorem VIn.drop {w : World} {b o : Nat} {l : List V} (h : VIn w (some ⟨b, o, none⟩) l) (k : Nat) : VIn w (some ⟨b, o + k * 12, none⟩) (l.drop k) := by
  intro hn
  have hl : l ≠ [] := by rintro rfl; simp at hn
  obtain ⟨b', o', e, hb, hc⟩ := h hl
  cases e
  refine ⟨b, o + k * 12, rfl, hb, fun i hi j hj => ?_⟩
  have hi' : k + i < l.length := by simp at hi; omega
  have h1 := hc (k + i) hi' j hj
  rw [List.getElem_drop, ← h1]
  congr 2
  omega
theorem VIn.cells {w : World} {b o : Nat} {l : List V} (h : VIn w (some ⟨b, o, none⟩) l) : ∀ j u, (cellsV l)[j]? = some u → w.cell? ((⟨b, o, none⟩ : Addr).add j) = some u := by
  intro j u hj
  have hlt : j < l.length * 12 := by
    have := (List.getElem?_eq_some_iff.1 hj).1
    rwa [cellsV_length] at this
  have hn : l ≠ [] := by rintro rfl; simp at hlt
  obtain ⟨b', o', e, hb, hc⟩ := h hn
  cases e
  have hi : j / 12 < l.length := by omega
  have h1 := hc (j / 12) hi (j % 12) (by omega)
  have h2 := cellsV_get l (j / 12) (j % 12) hi (by omega)
  rw [show j / 12 * 12 + j % 12 = j by omega] at h2
  rw [Addr.add_lit, ← hj, h2, ← h1]
  congr 2
  omega
/-- append of violations. -/
theorem app_viols (w : World) (ty : TypeId) (v : Value) (l ys : List V) (h : OwnV w v l) (a : Addr) (c : Nat) (hys : ∀ j u, (cellsV ys)[j]? = some u → w.cell? (a.add j) = some u) (hb : l.length + ys.length ≤ 1172812402960) :
    ∃ v' w', (Builtin.append_ #[28, 28] ty #[v, .slice (some a) ys.length c]).run Try.prog w = .ok v' w' ∧ OwnV w' v' (l ++ ys) ∧ w.grownBy w' v.ownBlock ∧
      (v'.ownBlock = v.ownBlock ∨ (v'.ownBlock = some w.heap.size ∧ w.grownBy w' none)) := by
  obtain ⟨ti, hi, hz0, hz1, hz2⟩ := info_parts infoV
  unfold OwnV
  rw [cellsV_append, List.length_append]
  exact run_append_own3 w 0 28 ty 30 ti _ 12 120 Try.underlying28 hi hz0 hz1 hz2 rfl v _ _ h a ys.length c (cellsV ys) (cellsV_length ys) hys (cellsV_one _) (by unfold maxLen; omega) (by omega) (Nat.zero_le _)
theorem app_none (w : World) (ty : TypeId) (b c : Nat) : (Builtin.append_ #[28, 28] ty #[.slice (some ⟨b, 0, none⟩) 0 0, .slice none 0 c]).run Try.prog w = .ok (.slice (some ⟨b, 0, none⟩) 0 0) w := by
  obtain ⟨ti, hi, hz0, hz1, hz2⟩ := info_parts infoV
  simp [Builtin.append_, run_underlying Try.underlying28, sizeOf, typeInfo, hi, Builtin.lenOf, Builtin.firstCells, loadCells, loadCellsFrom, storeCells]

def SortPost (w : World) (l : List V) (e : Ending) (w' : World) : Prop := ∃ v, e = .returned v ∧ OwnV w' v (sortV l) ∧ (∀ k, v.ownBlock = some k → w.heap.size ≤ k) ∧ Below w.heap.size w w'
set_option maxHeartbeats 2000000 in
set_option maxRecDepth 100000 in
theorem sort_small (a : Option Addr) (cap : Nat) (l : List V) (w : World) (ha : VIn w a l) (hl : l.length < 2) (hnil : a = none → l = []) :
    Calls Try.prog 20 #[.slice a l.length cap] w (SortPost w l) := by
  have hs : sortV l = l := by unfold sortV; rw [dif_pos hl]
  have hal := (Below.refl _ w).alloc (Nat.le_refl _) (.cells #[] 30)
  have h0 : OwnV (w.alloc (.cells #[] 30)) (.slice (some ⟨w.heap.size, 0, none⟩) 0 0) [] := ⟨rfl, .inr ⟨w.heap.size, 0, #[], rfl, Nat.zero_le _, heap_alloc_new w _, Nat.le_refl _, by unfold maxLen; omega, rfl, rfl⟩⟩
  have key : ∃ v' w2, (Builtin.append_ #[28, 28] 28 #[.slice (some ⟨w.heap.size, 0, none⟩) 0 0, .slice a l.length cap]).run Try.prog (w.alloc (.cells #[] 30)) = .ok v' w2 ∧ OwnV w2 v' l ∧ (∀ k, v'.ownBlock = some k → w.heap.size ≤ k) ∧ Below w.heap.size w w2 := by
    cases a with
    | none =>
      obtain rfl := hnil rfl
      exact ⟨_, _, app_none _ _ _ _, h0, fun k hk => by cases hk; exact Nat.le_refl _, hal⟩
    | some ad =>
      by_cases hn : l = []
      · subst hn
        obtain ⟨v', w2, hrun, hown, hgr, hdis⟩ := app_viols (w.alloc (.cells #[] 30)) 28 (.slice (some ⟨w.heap.size, 0, none⟩) 0 0) [] [] h0 ad cap (fun j u hj => by simp [cellsV] at hj) (by simp)
        refine ⟨v', w2, hrun, hown, fun k hk => ?_, hal.trans ((Upd.of_grown hgr).below hal.size (fun k hk => by simp [Value.ownBlock] at hk; omega))⟩
        rcases hdis with h1 | ⟨h1, _⟩
        · rw [h1] at hk; simp [Value.ownBlock] at hk; omega
        · rw [h1] at hk; cases hk; exact hal.size
      · obtain ⟨b, o, e, hb, hc⟩ := ha hn
        cases e
        have ha2 : VIn (w.alloc (.cells #[] 30)) (some ⟨b, o, none⟩) l := ha.below hal
        obtain ⟨v', w2, hrun, hown, hgr, hdis⟩ := app_viols (w.alloc (.cells #[] 30)) 28 (.slice (some ⟨w.heap.size, 0, none⟩) 0 0) [] l h0 ⟨b, o, none⟩ cap ha2.cells (by simp; omega)
        refine ⟨v', w2, hrun, hown, fun k hk => ?_, hal.trans ((Upd.of_grown hgr).below hal.size (fun k hk => by simp [Value.ownBlock] at hk; omega))⟩
        rcases hdis with h1 | ⟨h1, _⟩
        · rw [h1] at hk; simp [Value.ownBlock] at hk; omega
        · rw [h1] at hk; cases hk; exact hal.size
  obtain ⟨v', w2, hrun, hown, hnew, hbel⟩ := key
  have d0 : decide ((l.length : Int) < 2) = true := decide_eq_true (by omega)
  have d1 : decide (l.length < 2) = true := decide_eq_true hl
  have HS := hid hs
  have HO := hid hown
  have HN := hid hnew
  have HB := hid hbel
  clear hs hown hnew hbel h0 hal ha hnil
  go_enter Try.func20, Try.ntmps20
  go_wp2_with (at_builtin; refine wpList_append_run _ rfl (.tmp 11) (.tmp 12) 28 28 rfl _ _ rfl rfl hrun ?_)
  go_ret
  exact ⟨_, rfl, by rw [HS.out]; exact HO.out, HN.out, HB.out⟩
end Go.Proofs.Ytgimpkbknaopcaa
