/- Once of a graph. No statement is proved here. -/
import Derived.Test.YtbbfbkoanbdghaaGL
set_option linter.unusedVariables false
set_option linter.unusedSimpArgs false
namespace Go.Proofs.Ytbbfbkoanbdghaa
open Go.RowKit

theorem notCloses_lab {es : List E} {N : Nat} {mask label : Int} {x : E} (h : ¬ x.lab = label) : ¬ Closes es N mask label x := fun hc => h hc.1
def NoneYet (es : List E) (N : Nat) (mask label : Int) (ss : List E) (p : Nat) : Prop := ∀ j, j < p → ∀ y, ss[j]? = some y → ¬ Closes es N mask label y
theorem NoneYet.next {es : List E} {N : Nat} {mask label : Int} {ss : List E} {p : Nat} {x : E} (h : NoneYet es N mask label ss p) (hx : ss[p]? = some x) (hn : ¬ Closes es N mask label x) : NoneYet es N mask label ss (p + 1) := by
  intro j hj y hy
  by_cases e : j = p
  · subst e
    rw [hx] at hy
    cases hy
    exact hn
  · exact h j (by omega) y hy
theorem set3 {w : World} {tb : Nat} {a b c : Value} {t : TypeId} (h : w.heap[tb]? = some (.cells #[a, b, c] t (0, 0))) (u v z : Value) : (((w.setCell ⟨tb, 0, none⟩ u).setCell ⟨tb, 1, none⟩ v).setCell ⟨tb, 2, none⟩ z).heap[tb]? = some (.cells #[u, v, z] t (0, 0)) := by
  have h1 := heap_setCell_same w tb 0 _ _ u h
  have h2 := heap_setCell_same _ tb 1 _ _ v h1
  have h3 := heap_setCell_same _ tb 2 _ _ z h2
  rw [h3]
  rfl
theorem set3_below {B : Nat} (w : World) (tb : Nat) (u v z : Value) (hB : B ≤ tb) : Below B w (((w.setCell ⟨tb, 0, none⟩ u).setCell ⟨tb, 1, none⟩ v).setCell ⟨tb, 2, none⟩ z) :=
  (((Below.refl B w).setCell (p := ⟨tb, 0, none⟩) hB u).setCell (p := ⟨tb, 1, none⟩) hB v).setCell (p := ⟨tb, 2, none⟩) hB z
set_option maxHeartbeats 8000000 in
set_option maxRecDepth 100000 in
theorem once_any {B : Nat} {w : World} {g N : Nat} {es : List E} {mb ob bb : Nat} {oc bc : Array Value} {vs : Nat → Value} (h : Gr B w g N es mb ob bb oc bc vs) (mask label : Int) :
    Calls Try.prog 16 #[.pointer (some ⟨g, 0, none⟩), .int .i64 mask, .int .i64 label] w (OncePost w es N mask label) := by
  have hal := (Below.refl _ w).alloc (Nat.le_refl _) (.cells #[.int .i64 0, .int .i64 0, .int .i64 0] 29)
  have HG0 := hid (h.below hal)
  have T0 : Hid ((w.alloc (.cells #[.int .i64 0, .int .i64 0, .int .i64 0] 29)).heap[w.heap.size]? = some (.cells #[.int .i64 0, .int .i64 0, .int .i64 0] 29 (0, 0))) := hid (heap_alloc_new w _)
  have HB0 := hid hal
  clear h hal
  go_enter Try.func16, Try.ntmps16
  go_wp2_with fail
  obtain ⟨w0, hw0⟩ : ∃ w0, w.alloc (.cells #[.int .i64 0, .int .i64 0, .int .i64 0] 29) = w0 := ⟨_, rfl⟩
  rw [hw0] at HG0 T0 HB0 ⊢
  obtain ⟨tb, htb⟩ : ∃ tb, tb = w.heap.size := ⟨_, rfl⟩
  rw [← htb] at T0 ⊢
  have HT := hid htb
  clear hw0 htb
  refine (edges_any HG0.out).mono ?_
  rintro e w1 ⟨v, ss, rfl, hp, hs, ho, _, hB1⟩
  obtain ⟨a, c, rfl, hin, _, _⟩ := own_ein ho
  have HIN := hid hin
  have HP := hid hp
  have HS := hid hs
  have HG1 := hid (HG0.out.below hB1)
  have T1 := hid ((hB1.block tb (blk_lt T0.out)).trans T0.out)
  have HB1 := hid (HB0.out.trans (hB1.mono HB0.out.size))
  obtain ⟨len, hl0⟩ : ∃ len, len = ss.length := ⟨_, rfl⟩
  rw [← hl0]
  have HL := hid hl0
  have hl64 : len ≤ 65536 := by have := hp.length_eq; have := HG0.out.len; omega
  clear hin hp hs ho hB1 HG0 T0 HB0 hl0
  go_wp2_with fail
  go_loopg [13] len (fun gh s13 wr => ∃ p : Nat, p ≤ len ∧ gh = len - p ∧ s13 = .int .i64 p ∧ Hid (Below w1.heap.size w1 wr) ∧ Hid (NoneYet es N mask label ss p))
  case atStart => exact ⟨0, Nat.zero_le _, by omega, rfl, hid (Below.refl _ _), hid (fun j hj => by omega)⟩
  case round =>
    obtain ⟨p, hp, rfl, rfl, HB, HN⟩ := hrel
    by_cases hpl : p < len
    · have hpl' : p < ss.length := by have := HL.out; omega
      have hne : ss ≠ [] := by
        intro h
        rw [h] at hpl'
        simp at hpl'
      obtain ⟨b, rfl, hbl, hc⟩ := (HIN.out.below HB.out) hne
      have hx := hc p hpl'
      have HX : Hid (ss[p]? = some ss[p]) := hid (List.getElem?_eq_getElem hpl')
      clear hc
      generalize ss[p] = x at *
      have x0 : wr.cell? ⟨b, p * 3, none⟩ = some (.int .i64 x.frm) := hx 0 (by omega)
      have x1 : wr.cell? ⟨b, p * 3 + 1, none⟩ = some (.int .i64 x.to) := hx 1 (by omega)
      have x2 : wr.cell? ⟨b, p * 3 + 2, none⟩ = some (.int .i64 x.lab) := hx 2 (by omega)
      have hpI : (p : Int) < (len : Int) := by omega
      have hp63 : (p : Int) + 1 ≤ 9223372036854775807 := by omega
      have hal := (Below.refl _ wr).alloc (Nat.le_refl _) (.cells #[.int .i64 x.frm, .int .i64 x.to, .int .i64 x.lab] 29)
      have X4 : Hid ((wr.alloc (.cells #[.int .i64 x.frm, .int .i64 x.to, .int .i64 x.lab] 29)).heap[wr.heap.size]? = some (.cells #[.int .i64 x.frm, .int .i64 x.to, .int .i64 x.lab] 29 (0, 0))) := hid (heap_alloc_new wr _)
      have HG2 := hid (HG1.out.below (HB.out.trans (hal.mono HB.out.size)))
      have HB2 := hid (HB.out.trans (hal.mono HB.out.size))
      clear hx hal hne
      go_upto_region 4 with fail
      clear x0 x1 x2
      obtain ⟨w4, hw4⟩ : ∃ w4, wr.alloc (.cells #[.int .i64 x.frm, .int .i64 x.to, .int .i64 x.lab] 29) = w4 := ⟨_, rfl⟩
      obtain ⟨bx, hbx⟩ : ∃ bx, bx = wr.heap.size := ⟨_, rfl⟩
      rw [hw4] at X4 HG2 HB2 ⊢
      rw [← hbx] at X4 ⊢
      clear hw4 hbx
      have x0 : w4.cell? ⟨bx, 0, none⟩ = some (.int .i64 x.frm) := (blk_cell X4.out 0).trans rfl
      have x1 : w4.cell? ⟨bx, 1, none⟩ = some (.int .i64 x.to) := (blk_cell X4.out 1).trans rfl
      have x2 : w4.cell? ⟨bx, 2, none⟩ = some (.int .i64 x.lab) := (blk_cell X4.out 2).trans rfl
      by_cases hlab : x.lab = label
      · have bl : (x.lab == label) = true := by rw [hlab]; simp
        have bl2 : decide (x.lab = label) = true := decide_eq_true hlab
        have HLab := hid hlab
        clear hlab
        by_cases hft : x.frm = x.to
        · have bf : (x.frm == x.to) = true := by rw [hft]; simp
          have bf2 : decide (x.frm = x.to) = true := decide_eq_true hft
          have HFT := hid hft
          clear hft
          have hT4 : w4.heap[tb]? = some (.cells #[.int .i64 0, .int .i64 0, .int .i64 0] 29 (0, 0)) := (HB2.out.block tb (blk_lt T1.out)).trans T1.out
          have f0 := blk_free hT4 0
          have f1 := blk_free hT4 1
          have f2 := blk_free hT4 2
          have t0 : w4.cell? ⟨tb, 0, none⟩ = some (.int .i64 0) := (blk_cell hT4 0).trans rfl
          have t1 : w4.cell? ⟨tb, 1, none⟩ = some (.int .i64 0) := (blk_cell hT4 1).trans rfl
          have t2 : w4.cell? ⟨tb, 2, none⟩ = some (.int .i64 0) := (blk_cell hT4 2).trans rfl
          have hci : Closes es N mask label x := ⟨HLab.out, .inl HFT.out⟩
          have hset := set3 hT4 (.int .i64 x.frm) (.int .i64 x.to) (.int .i64 x.lab)
          have hsb := set3_below (B := w.heap.size) w4 tb (.int .i64 x.frm) (.int .i64 x.to) (.int .i64 x.lab) (by have := HT.out; omega)
          have HSet := hid hset
          have HSb := hid hsb
          clear hset hsb
          go_wp2_with fail
          obtain ⟨w7, hw7⟩ : ∃ w7, ((w4.setCell ⟨tb, 0, none⟩ (.int .i64 x.frm)).setCell ⟨tb, 1, none⟩ (.int .i64 x.to)).setCell ⟨tb, 2, none⟩ (.int .i64 x.lab) = w7 := ⟨_, rfl⟩
          rw [hw7] at HSet HSb ⊢
          have z0 : w7.cell? ⟨tb, 0, none⟩ = some (.int .i64 x.frm) := (blk_cell HSet.out 0).trans rfl
          have z1 : w7.cell? ⟨tb, 1, none⟩ = some (.int .i64 x.to) := (blk_cell HSet.out 1).trans rfl
          have z2 : w7.cell? ⟨tb, 2, none⟩ = some (.int .i64 x.lab) := (blk_cell HSet.out 2).trans rfl
          refine bodyPost_ret (v := .tuple #[x.agg, .bool true]) (by simp [results, Try.results16, go_sem, z0, z1, z2]) rfl ?_
          have hb7 := (HB1.out.trans (HB2.out.mono HB1.out.size)).trans HSb.out
          exact ⟨ss, x, true, rfl, HP.out, HS.out, hb7, .inl ⟨rfl, p, hpl', Option.some.inj ((List.getElem?_eq_getElem hpl').symm.trans HX.out) ▸ rfl, Option.some.inj ((List.getElem?_eq_getElem hpl').symm.trans HX.out) ▸ hci, HN.out⟩⟩
        · have bf : (x.frm == x.to) = false := beq_eq_false_iff_ne.mpr hft
          have bf2 : decide (x.frm = x.to) = false := decide_eq_false hft
          have HFT := hid hft
          clear hft
          go_wp2_with fail
          refine (reach_any HG2.out x.to x.frm mask).mono ?_
          rintro e w5 ⟨r, rfl, hr, hB5, _⟩
          have HR := hid hr
          have B5 := hid hB5
          clear hr hB5
          cases r with
          | true =>
            have hT5 : w5.heap[tb]? = some (.cells #[.int .i64 0, .int .i64 0, .int .i64 0] 29 (0, 0)) := ((HB2.out.trans (B5.out.mono HB2.out.size)).block tb (blk_lt T1.out)).trans T1.out
            have f0 := blk_free hT5 0
            have f1 := blk_free hT5 1
            have f2 := blk_free hT5 2
            have t0 : w5.cell? ⟨tb, 0, none⟩ = some (.int .i64 0) := (blk_cell hT5 0).trans rfl
            have t1 : w5.cell? ⟨tb, 1, none⟩ = some (.int .i64 0) := (blk_cell hT5 1).trans rfl
            have t2 : w5.cell? ⟨tb, 2, none⟩ = some (.int .i64 0) := (blk_cell hT5 2).trans rfl
            have hci : Closes es N mask label x := ⟨HLab.out, .inr (HR.out.1 rfl)⟩
            have y0 : w5.cell? ⟨bx, 0, none⟩ = some (.int .i64 x.frm) := (B5.out.cell (p := ⟨bx, 0, none⟩) (blk_lt X4.out)).trans x0
            have y1 : w5.cell? ⟨bx, 1, none⟩ = some (.int .i64 x.to) := (B5.out.cell (p := ⟨bx, 1, none⟩) (blk_lt X4.out)).trans x1
            have y2 : w5.cell? ⟨bx, 2, none⟩ = some (.int .i64 x.lab) := (B5.out.cell (p := ⟨bx, 2, none⟩) (blk_lt X4.out)).trans x2
            have hset := set3 hT5 (.int .i64 x.frm) (.int .i64 x.to) (.int .i64 x.lab)
            have hsb := set3_below (B := w.heap.size) w5 tb (.int .i64 x.frm) (.int .i64 x.to) (.int .i64 x.lab) (by have := HT.out; omega)
            have HSet := hid hset
            have HSb := hid hsb
            clear hset hsb
            go_wp2_with fail
            obtain ⟨w7, hw7⟩ : ∃ w7, ((w5.setCell ⟨tb, 0, none⟩ (.int .i64 x.frm)).setCell ⟨tb, 1, none⟩ (.int .i64 x.to)).setCell ⟨tb, 2, none⟩ (.int .i64 x.lab) = w7 := ⟨_, rfl⟩
            rw [hw7] at HSet HSb ⊢
            have z0 : w7.cell? ⟨tb, 0, none⟩ = some (.int .i64 x.frm) := (blk_cell HSet.out 0).trans rfl
            have z1 : w7.cell? ⟨tb, 1, none⟩ = some (.int .i64 x.to) := (blk_cell HSet.out 1).trans rfl
            have z2 : w7.cell? ⟨tb, 2, none⟩ = some (.int .i64 x.lab) := (blk_cell HSet.out 2).trans rfl
            refine bodyPost_ret (v := .tuple #[x.agg, .bool true]) (by simp [results, Try.results16, go_sem, z0, z1, z2]) rfl ?_
            have hb7 := (HB1.out.trans ((HB2.out.trans (B5.out.mono HB2.out.size)).mono HB1.out.size)).trans HSb.out
            exact ⟨ss, x, true, rfl, HP.out, HS.out, hb7, .inl ⟨rfl, p, hpl', Option.some.inj ((List.getElem?_eq_getElem hpl').symm.trans HX.out) ▸ rfl, Option.some.inj ((List.getElem?_eq_getElem hpl').symm.trans HX.out) ▸ hci, HN.out⟩⟩
          | false =>
            have HB5 := hid (HB2.out.trans (B5.out.mono HB2.out.size))
            have HN2 := hid (HN.out.next HX.out fun hc => by
              rcases hc.2 with h | h
              · exact HFT.out h
              · have := HR.out.2 h
                cases this)
            clear x0 x1 x2
            go_wp2_with fail
            go_roundg (len - (p + 1))
            case measure => omega
            case rel => exact ⟨p + 1, by omega, rfl, by go_num, HB5, HN2⟩
      · have bl : (x.lab == label) = false := beq_eq_false_iff_ne.mpr hlab
        have bl2 : decide (x.lab = label) = false := decide_eq_false hlab
        have HN2 := hid (HN.out.next HX.out (notCloses_lab hlab))
        clear hlab
        go_wp2_with fail
        clear x0 x1 x2
        go_roundg (len - (p + 1))
        case measure => omega
        case rel => exact ⟨p + 1, by omega, rfl, by go_num, HB2, HN2⟩
    · have hpe : len = p := by omega
      subst hpe
      have hT4 : wr.heap[tb]? = some (.cells #[.int .i64 0, .int .i64 0, .int .i64 0] 29 (0, 0)) := (HB.out.block tb (blk_lt T1.out)).trans T1.out
      have f0 := blk_free hT4 0
      have f1 := blk_free hT4 1
      have f2 := blk_free hT4 2
      have t0 : wr.cell? ⟨tb, 0, none⟩ = some (.int .i64 0) := (blk_cell hT4 0).trans rfl
      have t1 : wr.cell? ⟨tb, 1, none⟩ = some (.int .i64 0) := (blk_cell hT4 1).trans rfl
      have t2 : wr.cell? ⟨tb, 2, none⟩ = some (.int .i64 0) := (blk_cell hT4 2).trans rfl
      have hset := set3 hT4 (.int .i64 0) (.int .i64 0) (.int .i64 0)
      have hsb := set3_below (B := w.heap.size) wr tb (.int .i64 0) (.int .i64 0) (.int .i64 0) (by have := HT.out; omega)
      have HSet := hid hset
      have HSb := hid hsb
      clear hset hsb
      go_wp2_with fail
      obtain ⟨w7, hw7⟩ : ∃ w7, ((wr.setCell ⟨tb, 0, none⟩ (.int .i64 0)).setCell ⟨tb, 1, none⟩ (.int .i64 0)).setCell ⟨tb, 2, none⟩ (.int .i64 0) = w7 := ⟨_, rfl⟩
      rw [hw7] at HSet HSb ⊢
      have z0 : w7.cell? ⟨tb, 0, none⟩ = some (.int .i64 0) := (blk_cell HSet.out 0).trans rfl
      have z1 : w7.cell? ⟨tb, 1, none⟩ = some (.int .i64 0) := (blk_cell HSet.out 1).trans rfl
      have z2 : w7.cell? ⟨tb, 2, none⟩ = some (.int .i64 0) := (blk_cell HSet.out 2).trans rfl
      refine bodyPost_ret (v := .tuple #[(E.mk 0 0 0).agg, .bool false]) (by simp [results, Try.results16, go_sem, z0, z1, z2]) rfl ?_
      have hb7 := (HB1.out.trans (HB.out.mono HB1.out.size)).trans HSb.out
      exact ⟨ss, ⟨0, 0, 0⟩, false, rfl, HP.out, HS.out, hb7, .inr ⟨rfl, rfl, fun y hy => by
        obtain ⟨j, hj, rfl⟩ := List.mem_iff_getElem.1 hy
        exact HN.out j (by have := HL.out; omega) _ (List.getElem?_eq_getElem hj)⟩⟩
end Go.Proofs.Ytbbfbkoanbdghaa
