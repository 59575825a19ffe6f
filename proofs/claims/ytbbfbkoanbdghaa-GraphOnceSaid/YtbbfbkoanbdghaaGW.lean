/- The walk of GraphOnce. No statement is proved here. -/
import Derived.Test.YtbbfbkoanbdghaaGO
set_option linter.unusedVariables false
set_option linter.unusedSimpArgs false
namespace Go.Proofs.Ytbbfbkoanbdghaa
open Go.RowKit

def Found (es : List E) (N : Nat) (mask label : Int) (ss : List E) (xo : E) (ok : Bool) : Prop :=
  (ok = true ∧ ∃ i, ∃ hi : i < ss.length, xo = ss[i] ∧ Closes es N mask label ss[i] ∧ ∀ j, j < i → ∀ y, ss[j]? = some y → ¬ Closes es N mask label y) ∨ (ok = false ∧ xo = ⟨0, 0, 0⟩ ∧ ∀ y ∈ ss, ¬ Closes es N mask label y)
theorem Found.at {es : List E} {N : Nat} {mask label : Int} {ss : List E} {xo x : E} {ok : Bool} {p : Nat} (h : Found es N mask label ss xo ok) (hn : NoneYet es N mask label ss p) (hx : ss[p]? = some x) (hc : Closes es N mask label x) : ok = true ∧ xo = x := by
  rcases h with ⟨h1, i, hi, h2, h3, h4⟩ | ⟨_, _, h3⟩
  · refine ⟨h1, ?_⟩
    rcases Nat.lt_trichotomy i p with h5 | h5 | h5
    · exact absurd h3 (hn i h5 _ (List.getElem?_eq_getElem hi))
    · subst h5
      rw [List.getElem?_eq_getElem hi] at hx
      cases hx
      exact h2
    · exact absurd hc (h4 p h5 x hx)
  · exact absurd hc (h3 x (List.mem_of_getElem? hx))
theorem Found.none {es : List E} {N : Nat} {mask label : Int} {ss : List E} {xo : E} {ok : Bool} (h : Found es N mask label ss xo ok) (hn : NoneYet es N mask label ss ss.length) : ok = false ∧ xo = ⟨0, 0, 0⟩ := by
  rcases h with ⟨_, i, hi, _, h3, _⟩ | ⟨h1, h2, _⟩
  · exact absurd h3 (hn i hi _ (List.getElem?_eq_getElem hi))
  · exact ⟨h1, h2⟩
set_option maxHeartbeats 8000000 in
set_option maxRecDepth 100000 in
theorem gonce_walk (n : Int) (a : Option Addr) (l : List E) (cap : Nat) (mask label : Int) (w : World) (hin : ESl w a l) :
    Calls Try.prog 4 #[.int .i64 n, .slice a l.length cap, .int .i64 mask, .int .i64 label] w fun e w' => e = .returned (.bool true) ∧ Below w.heap.size w w' := by
  have HIN0 := hid hin
  clear hin
  obtain ⟨len0, hl0⟩ : ∃ len, len = l.length := ⟨_, rfl⟩
  rw [← hl0]
  have HL0 := hid hl0
  clear hl0
  by_cases hq0 : n < 1
  · go_enter Try.func4, Try.ntmps4
    go_wp2_with fail
    refine (anchor_any _).mono ?_
    rintro e w1 ⟨rfl, hb1⟩
    go_wp2_with fail
    all_goals go_ret
    all_goals exact ⟨rfl, hb1⟩
  by_cases hq1 : 60 < n
  · go_enter Try.func4, Try.ntmps4
    go_wp2_with fail
    refine (anchor_any _).mono ?_
    rintro e w1 ⟨rfl, hb1⟩
    go_wp2_with fail
    all_goals go_ret
    all_goals exact ⟨rfl, hb1⟩
  by_cases hq2 : 600 < len0
  · have hq3 : (600 : Int) < (len0 : Int) := by omega
    go_enter Try.func4, Try.ntmps4
    go_wp2_with fail
    refine (anchor_any _).mono ?_
    rintro e w1 ⟨rfl, hb1⟩
    go_wp2_with fail
    all_goals go_ret
    all_goals exact ⟨rfl, hb1⟩
  obtain ⟨N, rfl⟩ := Int.eq_ofNat_of_zero_le (show 0 ≤ n by omega)
  have hN : N ≤ 60 := by omega
  have hb := fun (W : World) (h : ESl W a l) => build_any N (by omega) a l cap W h (by have := HL0.out; omega)
  rw [← HL0.out] at hb
  have HB9 := hid hb
  clear hb
  go_enter Try.func4, Try.ntmps4
  go_wp2_with fail
  refine (anchor_any _).mono ?_
  rintro e w1 ⟨rfl, hb1⟩
  have HB1 := hid hb1
  clear hb1
  go_wp2_with fail
  refine (HB9.out w1 (HIN0.out.below HB1.out)).mono ?_
  rintro e w2 ⟨g, mb, ob, bb, oc, bc, vs, rfl, hG, hB2⟩
  have HG2 := hid hG
  have HB2 := hid (HB1.out.trans (hB2.mono HB1.out.size))
  clear hG hB2 HB1 HB9 HIN0 HL0 hq0 hq1 hq2
  obtain ⟨es, hes⟩ : ∃ es, es = buildE N l := ⟨_, rfl⟩
  rw [← hes] at HG2
  clear hes
  go_wp2_with fail
  refine (once_any HG2.out mask label).mono ?_
  rintro e w3 ⟨so, xo, ok, rfl, hpo, hso, hB3, hf⟩
  have HF0 := hid (show Found es N mask label so xo ok from hf)
  have HPO := hid hpo
  have HSO := hid hso
  have HG3 := hid (HG2.out.below hB3)
  have HB3 := hid (HB2.out.trans (hB3.mono HB2.out.size))
  clear hpo hso hB3 hf HG2 HB2
  have hal := (Below.refl _ w3).alloc (Nat.le_refl _) (.cells #[.int .i64 xo.frm, .int .i64 xo.to, .int .i64 xo.lab] 29)
  have HG4 := hid (HG3.out.below hal)
  have HB4 := hid (HB3.out.trans (hal.mono HB3.out.size))
  have T4 : Hid ((w3.alloc (.cells #[.int .i64 xo.frm, .int .i64 xo.to, .int .i64 xo.lab] 29)).heap[w3.heap.size]? = some (.cells #[.int .i64 xo.frm, .int .i64 xo.to, .int .i64 xo.lab] 29 (0, 0))) := hid (heap_alloc_new w3 _)
  clear hal HG3 HB3
  go_wp2_with fail
  obtain ⟨w0, hw0⟩ : ∃ w0, w3.alloc (.cells #[.int .i64 xo.frm, .int .i64 xo.to, .int .i64 xo.lab] 29) = w0 := ⟨_, rfl⟩
  obtain ⟨tb, htb⟩ : ∃ tb, tb = w3.heap.size := ⟨_, rfl⟩
  rw [hw0] at HG4 HB4 T4 ⊢
  rw [← htb] at T4 ⊢
  clear hw0 htb
  refine (edges_any HG4.out).mono ?_
  rintro e w1 ⟨v, ss, rfl, hp, hs, ho, _, hB1⟩
  obtain rfl := sorted_uniq HPO.out HSO.out hp hs
  obtain ⟨a, c, rfl, hin, _, _⟩ := own_ein ho
  have HIN := hid hin
  have HG1 := hid (HG4.out.below hB1)
  have T1 := hid ((hB1.block tb (blk_lt T4.out)).trans T4.out)
  have HB1 := hid (HB4.out.trans (hB1.mono HB4.out.size))
  obtain ⟨len, hl0⟩ : ∃ len, len = ss.length := ⟨_, rfl⟩
  rw [← hl0]
  have HL := hid hl0
  have hl64 : len ≤ 65536 := by have := hp.length_eq; have := HG4.out.len; omega
  clear hin hp hs ho hB1 HG4 T4 HB4 hl0 HPO HSO
  go_wp2_with fail
  go_loopg [43] len (fun gh s43 wr => ∃ p : Nat, p ≤ len ∧ gh = len - p ∧ s43 = .int .i64 p ∧ Hid (Below w1.heap.size w1 wr) ∧ Hid (NoneYet es N mask label ss p))
  case atStart => exact ⟨0, Nat.zero_le _, by omega, rfl, hid (Below.refl _ _), hid (fun j hj => by omega)⟩
  case round =>
    obtain ⟨p, hp, rfl, rfl, HB, HN⟩ := hrel
    by_cases hpl : p < len
    · have hpl' : p < ss.length := by have := HL.out; omega
      have hne : ss ≠ [] := by
        intro h
        rw [h] at hpl'
        simp at hpl'
      obtain ⟨b, rfl, hbl, hc⟩ := (HIN.out.below HB.out) hne
      have hx := hc p hpl'
      have HX : Hid (ss[p]? = some ss[p]) := hid (List.getElem?_eq_getElem hpl')
      clear hc
      generalize ss[p] = x at *
      have x0 : wr.cell? ⟨b, p * 3, none⟩ = some (.int .i64 x.frm) := hx 0 (by omega)
      have x1 : wr.cell? ⟨b, p * 3 + 1, none⟩ = some (.int .i64 x.to) := hx 1 (by omega)
      have x2 : wr.cell? ⟨b, p * 3 + 2, none⟩ = some (.int .i64 x.lab) := hx 2 (by omega)
      have hpI : (p : Int) < (len : Int) := by omega
      have hp63 : (p : Int) + 1 ≤ 9223372036854775807 := by omega
      have hal := (Below.refl _ wr).alloc (Nat.le_refl _) (.cells #[.int .i64 x.frm, .int .i64 x.to, .int .i64 x.lab] 29)
      have X4 : Hid ((wr.alloc (.cells #[.int .i64 x.frm, .int .i64 x.to, .int .i64 x.lab] 29)).heap[wr.heap.size]? = some (.cells #[.int .i64 x.frm, .int .i64 x.to, .int .i64 x.lab] 29 (0, 0))) := hid (heap_alloc_new wr _)
      have HG2 := hid (HG1.out.below (HB.out.trans (hal.mono HB.out.size)))
      have HB2 := hid (HB.out.trans (hal.mono HB.out.size))
      clear hx hal hne
      go_upto_region 12 with fail
      clear x0 x1 x2
      obtain ⟨w4, hw4⟩ : ∃ w4, wr.alloc (.cells #[.int .i64 x.frm, .int .i64 x.to, .int .i64 x.lab] 29) = w4 := ⟨_, rfl⟩
      obtain ⟨bx, hbx⟩ : ∃ bx, bx = wr.heap.size := ⟨_, rfl⟩
      rw [hw4] at X4 HG2 HB2 ⊢
      rw [← hbx] at X4 ⊢
      clear hw4 hbx
      have x0 : w4.cell? ⟨bx, 0, none⟩ = some (.int .i64 x.frm) := (blk_cell X4.out 0).trans rfl
      have x1 : w4.cell? ⟨bx, 1, none⟩ = some (.int .i64 x.to) := (blk_cell X4.out 1).trans rfl
      have x2 : w4.cell? ⟨bx, 2, none⟩ = some (.int .i64 x.lab) := (blk_cell X4.out 2).trans rfl
      by_cases hlab : x.lab = label
      · have bl : (x.lab == label) = true := by rw [hlab]; simp
        have bl2 : decide (x.lab = label) = true := decide_eq_true hlab
        have HLab := hid hlab
        clear hlab
        by_cases hft : x.frm = x.to
        · have bf : (x.frm == x.to) = true := by rw [hft]; simp
          have bf2 : decide (x.frm = x.to) = true := decide_eq_true hft
          obtain ⟨rfl, rfl⟩ := HF0.out.at HN.out HX.out ⟨HLab.out, .inl hft⟩
          have HFT := hid hft
          clear hft
          have hT4 := (HB2.out.block tb (blk_lt T1.out)).trans T1.out
          have t0 : w4.cell? ⟨tb, 0, none⟩ = some (.int .i64 xo.frm) := (blk_cell hT4 0).trans rfl
          have t1 : w4.cell? ⟨tb, 1, none⟩ = some (.int .i64 xo.to) := (blk_cell hT4 1).trans rfl
          have t2 : w4.cell? ⟨tb, 2, none⟩ = some (.int .i64 xo.lab) := (blk_cell hT4 2).trans rfl
          go_wp2_with fail
          go_ret
          exact ⟨rfl, HB1.out.trans (HB2.out.mono HB1.out.size)⟩
        · have bf : (x.frm == x.to) = false := beq_eq_false_iff_ne.mpr hft
          have bf2 : decide (x.frm = x.to) = false := decide_eq_false hft
          have HFT := hid hft
          clear hft
          go_wp2_with fail
          refine (reach_any HG2.out x.to x.frm mask).mono ?_
          rintro e w5 ⟨r, rfl, hr, hB5, _⟩
          have HR := hid hr
          have B5 := hid hB5
          clear hr hB5
          cases r with
          | true =>
            obtain ⟨rfl, rfl⟩ := HF0.out.at HN.out HX.out ⟨HLab.out, .inr (HR.out.1 rfl)⟩
            have hB7 := HB2.out.trans (B5.out.mono HB2.out.size)
            have hT4 := (hB7.block tb (blk_lt T1.out)).trans T1.out
            have t0 : w5.cell? ⟨tb, 0, none⟩ = some (.int .i64 xo.frm) := (blk_cell hT4 0).trans rfl
            have t1 : w5.cell? ⟨tb, 1, none⟩ = some (.int .i64 xo.to) := (blk_cell hT4 1).trans rfl
            have t2 : w5.cell? ⟨tb, 2, none⟩ = some (.int .i64 xo.lab) := (blk_cell hT4 2).trans rfl
            have y0 : w5.cell? ⟨bx, 0, none⟩ = some (.int .i64 xo.frm) := (B5.out.cell (p := ⟨bx, 0, none⟩) (blk_lt X4.out)).trans x0
            have y1 : w5.cell? ⟨bx, 1, none⟩ = some (.int .i64 xo.to) := (B5.out.cell (p := ⟨bx, 1, none⟩) (blk_lt X4.out)).trans x1
            have y2 : w5.cell? ⟨bx, 2, none⟩ = some (.int .i64 xo.lab) := (B5.out.cell (p := ⟨bx, 2, none⟩) (blk_lt X4.out)).trans x2
            have HB7 := hid hB7
            clear hB7
            go_wp2_with fail
            go_ret
            exact ⟨rfl, HB1.out.trans (HB7.out.mono HB1.out.size)⟩
          | false =>
            have HB5 := hid (HB2.out.trans (B5.out.mono HB2.out.size))
            have HN2 := hid (HN.out.next HX.out fun hc => by
              rcases hc.2 with h | h
              · exact HFT.out h
              · have := HR.out.2 h
                cases this)
            clear x0 x1 x2
            go_wp2_with fail
            go_roundg (len - (p + 1))
            case measure => omega
            case rel => exact ⟨p + 1, by omega, rfl, by go_num, HB5, HN2⟩
      · have bl : (x.lab == label) = false := beq_eq_false_iff_ne.mpr hlab
        have bl2 : decide (x.lab = label) = false := decide_eq_false hlab
        have HN2 := hid (HN.out.next HX.out (notCloses_lab hlab))
        clear hlab
        go_wp2_with fail
        clear x0 x1 x2
        go_roundg (len - (p + 1))
        case measure => omega
        case rel => exact ⟨p + 1, by omega, rfl, by go_num, HB2, HN2⟩
    · have hpe : len = p := by omega
      subst hpe
      obtain ⟨rfl, rfl⟩ := HF0.out.none (by have h := HN.out; rw [HL.out] at h; exact h)
      have hT4 := (HB.out.block tb (blk_lt T1.out)).trans T1.out
      have t0 : wr.cell? ⟨tb, 0, none⟩ = some (.int .i64 0) := (blk_cell hT4 0).trans rfl
      have t1 : wr.cell? ⟨tb, 1, none⟩ = some (.int .i64 0) := (blk_cell hT4 1).trans rfl
      have t2 : wr.cell? ⟨tb, 2, none⟩ = some (.int .i64 0) := (blk_cell hT4 2).trans rfl
      go_wp2_with fail
      go_ret
      exact ⟨rfl, HB1.out.trans (HB.out.mono HB1.out.size)⟩
end Go.Proofs.Ytbbfbkoanbdghaa
