/- List whatever the Top holds; the anchor of proctorlaw18. No statement is proved here. -/
import Derived.Test.YtgimpkbknaopcaaVN
set_option linter.unusedVariables false
set_option linter.unusedSimpArgs false
namespace Go.Proofs.Ytgimpkbknaopcaa
open Go.RowKit Go.Shelf Go.Lib
open Go.Sort hiding Below

theorem list_any (B : Nat → Prop) (t : Nat) (lim tot : Int) (hv : Value) (l : List Pt) (w : World) (h : Tp B w t lim tot hv l) (hl : l.length ≤ 20000) : Calls Try.prog 14 #[.pointer (some ⟨t, 0, none⟩)] w (ListPost w l) := by
  rcases h.own.2 with ⟨rfl, h0⟩ | ⟨g, cap, cur, rfl, _⟩
  · obtain rfl := List.eq_nil_of_length_eq_zero h0
    exact list_none B t lim tot w h
  · exact list_some B t g cap lim tot l w h hl
theorem ownV_open {w : World} {v : Value} {l : List V} (h : OwnV w v l) (hn : l ≠ []) : ∃ g cap, v = .slice (some ⟨g, 0, none⟩) l.length cap ∧ g < w.heap.size ∧ ∀ i (hi : i < l.length) j, j < 12 → w.cell? ⟨g, i * 12 + j, none⟩ = (l[i]).cs[j]? := by
  rcases h.2 with ⟨rfl, h0⟩ | ⟨g, cap, cur, rfl, k0, hg, rest⟩
  · exact absurd (List.eq_nil_of_length_eq_zero h0) hn
  · refine ⟨g, cap, rfl, blk_lt hg, fun i hi j hj => ?_⟩
    have hget := cellsV_get l i j hi hj
    have h2 : (l[i]).cs[j]? = some ((l[i]).cs[j]'(by rw [V.cs_length]; exact hj)) := List.getElem?_eq_getElem _
    have := h.cells (g := g) rfl (i * 12 + j) _ (hget.trans h2)
    rw [Addr.add_lit, Nat.zero_add] at this
    rw [this, h2]
theorem perm_one {p : Pt} {d : Array Pt} (h : PermIn 0 1 #[p] d) : d = #[p] := by
  obtain ⟨h1, _, h3⟩ := h
  have hs : d.size = 1 := h1
  have e1 : (d.extract 0 1) = d := by
    apply Array.ext
    · simp [hs]
    · intro i a b; simp
  have e2 : ((#[p] : Array Pt).extract 0 1) = #[p] := rfl
  rw [e1, e2] at h3
  have h4 := List.perm_singleton.1 h3
  exact Array.ext' h4

def av1 : V := ⟨8, 9, 0, 0, 0, .empty, false, .empty, false, .empty, 0, 0⟩
def av2 : V := ⟨8, 4, 0, 0, 0, .empty, false, .empty, false, .empty, 0, 0⟩
theorem av1_ok : validB av1 = true := by decide
theorem av2_ok : validB av2 = true := by decide
theorem put1 : putA 1 [] (Pt.mk av1 (0 + 1)) = [Pt.mk av1 1] := by
  unfold putA
  rw [if_pos (by decide)]
  simp [upA_zero]
theorem put2 : putA 1 [Pt.mk av1 1] (Pt.mk av2 (0 + 1 + 1)) = [Pt.mk av2 2] := by
  unfold putA
  rw [if_neg (by simp), dif_pos (by simp)]
  have hb : behindB [Pt.mk av1 1][0] (Pt.mk av2 (0 + 1 + 1)) = true := by decide
  rw [if_pos hb]
  have h1 := sd_end (lt := ltOf cfP) (hi := 1) (F := 0) (root := 0) #[Pt.mk av2 2] (by omega)
  show (siftDown (ltOf cfP) 1 0 0 #[Pt.mk av2 2]).toList = _
  rw [h1]

set_option maxHeartbeats 4000000 in
set_option maxRecDepth 1000000 in
theorem anchor_any (w : World) : Calls Try.prog 9 #[] w fun e w' => e = .returned (.bool true) ∧ Below w.heap.size w w' := by
  go_enter Try.func9, Try.ntmps9
  go_wp2_with fail
  refine (new_good 1 w (by omega) (by omega)).mono ?_
  rintro e w1 ⟨t, rfl, hT, hb⟩
  have T1 := hid hT
  have hb1 := hid hb
  clear hT hb
  go_wp2_with fail
  refine (put_any (fun k => k < w.heap.size) t 1 0 _ [] av1 _ T1.out (by omega) (by omega) (by simp) (by omega) (by omega) (fit_lt hb1.out.size)).mono ?_
  rintro e w2 (⟨hv, _⟩ | ⟨_, rfl, hv', hT, hb⟩)
  · rw [av1_ok] at hv; cases hv
  rw [put1] at hT
  have T2 := hid hT
  have hb2 := hid (hb1.out.trans (hb.below (fun k hk => hk)))
  clear hT hb T1 hb1
  go_wp2_with fail
  refine (put_any (fun k => k < w.heap.size) t 1 (0 + 1) _ [Pt.mk av1 1] av2 _ T2.out (by omega) (by omega) (by simp) (by omega) (by omega) (fit_lt hb2.out.size)).mono ?_
  rintro e w3 (⟨hv, _⟩ | ⟨_, rfl, hv3, hT, hb⟩)
  · rw [av2_ok] at hv; cases hv
  rw [put2] at hT
  have T3 := hid hT
  have hb3 := hid (hb2.out.trans (hb.below (fun k hk => hk)))
  clear hT hb T2 hb2
  go_wp2_with fail
  refine (list_any _ t _ _ _ _ _ T3.out (by simp)).mono ?_
  rintro e w4 ⟨v, d, rfl, hp, hs, ho, _, hb⟩
  obtain rfl := perm_one hp
  obtain ⟨g, cap, rfl, hgl, hc⟩ := ownV_open ho (by simp)
  have T4 := hid (T3.out.below hb)
  have hb4 := hid (hb3.out.trans (hb.mono hb3.out.size))
  have g0 : w4.cell? ⟨g, 0, none⟩ = some (.int .i64 8) := hc 0 (by simp) 0 (by omega)
  have g1 : w4.cell? ⟨g, 1, none⟩ = some (.int .i64 4) := hc 0 (by simp) 1 (by omega)
  have g2 : w4.cell? ⟨g, 2, none⟩ = some (.int .i64 0) := hc 0 (by simp) 2 (by omega)
  have g3 : w4.cell? ⟨g, 3, none⟩ = some (.int .i64 0) := hc 0 (by simp) 3 (by omega)
  have g4 : w4.cell? ⟨g, 4, none⟩ = some (.int .i64 0) := hc 0 (by simp) 4 (by omega)
  have g5 : w4.cell? ⟨g, 5, none⟩ = some (.string .empty) := hc 0 (by simp) 5 (by omega)
  have g6 : w4.cell? ⟨g, 6, none⟩ = some (.bool false) := hc 0 (by simp) 6 (by omega)
  have g7 : w4.cell? ⟨g, 7, none⟩ = some (.string .empty) := hc 0 (by simp) 7 (by omega)
  have g8 : w4.cell? ⟨g, 8, none⟩ = some (.bool false) := hc 0 (by simp) 8 (by omega)
  have g9 : w4.cell? ⟨g, 9, none⟩ = some (.string .empty) := hc 0 (by simp) 9 (by omega)
  have g10 : w4.cell? ⟨g, 10, none⟩ = some (.int .i64 0) := hc 0 (by simp) 10 (by omega)
  have g11 : w4.cell? ⟨g, 11, none⟩ = some (.int .i64 0) := hc 0 (by simp) 11 (by omega)
  clear hp hs ho hc hb hb3 T3
  simp only [List.map_cons, List.map_nil, List.length_cons, List.length_nil, Nat.zero_add]
  go_wp2_with fail
  refine (total_any _ t _ _ _ _ _ T4.out).mono ?_
  rintro e w5 ⟨rfl, rfl⟩
  go_wp2_with fail
  refine (valid_any av2 _).mono ?_
  rintro e w6 ⟨rfl, hb6⟩
  have hok := av2_ok
  go_wp2_with fail
  go_ret
  exact ⟨rfl, hb4.out.trans (hb6.mono hb4.out.size)⟩
end Go.Proofs.Ytgimpkbknaopcaa
