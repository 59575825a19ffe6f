/- The walk of distances. No statement is proved here. -/
import Derived.Test.YtbbfbkoanbdghaaGQ
import Derived.Deep.LoopGhost
set_option linter.unusedVariables false
set_option linter.unusedSimpArgs false
namespace Go.Proofs.Ytbbfbkoanbdghaa
open Go.RowKit

/-- A slice of edges that can be read. -/
def EIn (w : World) (a : Option Addr) (l : List E) : Prop := l ≠ [] → ∃ b, a = some ⟨b, 0, none⟩ ∧ b < w.heap.size ∧ ∀ i (hi : i < l.length) j, j < 3 → w.cell? ⟨b, i * 3 + j, none⟩ = (l[i]).cs[j]?
theorem EIn.below {w w' : World} {a : Option Addr} {l : List E} (h : EIn w a l) (hb : Below w.heap.size w w') : EIn w' a l := by
  intro hn
  obtain ⟨b, rfl, hl, hc⟩ := h hn
  exact ⟨b, rfl, Nat.lt_of_lt_of_le hl hb.size, fun i hi j hj => (hb.cell (p := ⟨b, i * 3 + j, none⟩) hl).trans (hc i hi j hj)⟩
theorem own_ein {w : World} {v : Value} {l : List E} (h : OwnE w v l) : ∃ a cap, v = .slice a l.length cap ∧ EIn w a l ∧ l.length ≤ cap ∧ (a = none → l = []) := by
  rcases h.2 with ⟨rfl, h0⟩ | ⟨g, cap, cur, rfl, k0, hg, hle, rest⟩
  · have hz := List.eq_nil_of_length_eq_zero h0
    exact ⟨none, 0, by rw [h0], fun hh => absurd hz hh, by omega, fun _ => hz⟩
  · refine ⟨_, _, rfl, fun _ => ⟨g, rfl, blk_lt hg, fun i hi j hj => ?_⟩, hle, fun hh => by cases hh⟩
    have hget := cellsE_get l i j hi hj
    have h2 : (l[i]).cs[j]? = some ((l[i]).cs[j]'(by rw [E.cs_length]; exact hj)) := List.getElem?_eq_getElem _
    have := h.cells (g := g) rfl (i * 3 + j) _ (hget.trans h2)
    rw [Addr.add_lit, Nat.zero_add] at this
    rw [this, h2]
def DistPost (w : World) (es : List E) (N : Nat) (mask : Int) (t : Nat) (e : Ending) (w' : World) : Prop :=
  ∃ d D, e = .returned (.slice (some ⟨d, 0, none⟩) N N) ∧ IsDist es N mask t D ∧ IntRow w' d N D ∧ w.heap.size ≤ d ∧ Below w.heap.size w w'
theorem row_mem {es : List E} {N x : Nat} (hx : x < N) {e : E} (h : e ∈ rowE es N (N + x)) : e ∈ es ∧ e.to = (x : Int) := by
  unfold rowE at h
  rw [if_neg (by omega), List.mem_filter] at h
  refine ⟨h.1, ?_⟩
  have := h.2
  simp at this
  exact this
set_option maxHeartbeats 16000000 in
set_option maxRecDepth 100000 in
theorem dist_any {B : Nat} {w : World} {g N : Nat} {es : List E} {mb ob bb : Nat} {oc bc : Array Value} {vs : Nat → Value} (h : Gr B w g N es mb ob bb oc bc vs) (t : Nat) (ht : t < N) (mask : Int) :
    Calls Try.prog 33 #[.pointer (some ⟨g, 0, none⟩), .int .i64 (t : Int), .int .i64 mask] w (DistPost w es N mask t) := by
  obtain ⟨ti, hi, hz0, hz1, hz2⟩ := info_parts infoI
  have hnn := h.nn
  have hmk : ∀ u : World, (Instr.makeSlice 38 (.int .i64 (N : Int)) (.int .i64 (N : Int))).run Try.prog u = .ok (.slice (some ⟨u.heap.size, 0, none⟩) N N) (u.alloc (.cells (madeCells #[.int .i64 0] N) 3)) := fun u => by
    have h := run_make (P := Try.prog) u 38 3 ti _ Try.underlying38 hi hz0 .i64 .i64 (N : Int) (N : Int) (by omega) (by omega) (by rw [hz2]; omega) (by omega)
    rw [hz1] at h
    simpa [Value.cells] using h
  have hal := (Below.refl _ w).alloc (Nat.le_refl _) (.cells (madeCells #[.int .i64 0] N) 3)
  have R1 : Hid (IntRow (w.alloc (.cells (madeCells #[.int .i64 0] N) 3)) w.heap.size N (fun _ => 0)) := hid ⟨_, heap_alloc_new w _, by rw [size_madeCells], fun i hi => by rw [← Array.getElem?_toList, toList_madeCells_one, List.getElem?_replicate, if_pos hi]⟩
  have B1 := hid hal
  have H0 := hid h
  have g0 : w.cell? ⟨g, 0, none⟩ = some (.int .i64 (N : Int)) := (blk_cell h.hg 0).trans rfl
  have htI : (t : Int) < (N : Int) := by omega
  clear h hal
  go_enter Try.func33, Try.ntmps33
  go_upto_region 2 with fail
  obtain ⟨d, hd⟩ : ∃ d, d = w.heap.size := ⟨_, rfl⟩
  obtain ⟨w1, hw1⟩ : ∃ w1, w.alloc (.cells (madeCells #[.int .i64 0] N) 3) = w1 := ⟨_, rfl⟩
  rw [hw1] at R1 B1 ⊢
  rw [← hd] at R1 ⊢
  have HD := hid hd
  clear hw1 hmk g0 hd
  go_wp2_with fail
  go_loopg [20] N (fun gh s20 wr => ∃ i : Nat, i ≤ N ∧ gh = N - i ∧ s20 = .int .i64 i ∧ Hid (IntRow wr d N (fun j => if j < i then -1 else 0)) ∧ Hid (Below w.heap.size w wr))
  case atStart => exact ⟨0, Nat.zero_le _, by omega, rfl, hid (R1.out.ext fun i _ => by simp), B1⟩
  case round =>
    clear R1 B1
    obtain ⟨i, hi, rfl, rfl, hR, hB⟩ := hrel
    by_cases hlt : i < N
    · have hiI : (i : Int) < (N : Int) := by omega
      have ci := hR.out.cell hlt
      have fi := hR.out.free i
      have hR2 := hid ((hR.out.set hlt (-1)).ext (D' := fun j => if j < i + 1 then -1 else 0) fun j hj => by
        by_cases e : j = i
        · subst e; rw [upd_same, if_pos (by omega)]
        · rw [upd_other e]
          by_cases h1 : j < i
          · rw [if_pos h1, if_pos (by omega)]
          · rw [if_neg h1, if_neg (by omega)])
      have hB2 := hid (hB.out.setCell (p := ⟨d, i, none⟩) (by show w.heap.size ≤ d; rw [HD.out]; exact Nat.le_refl _) (.int .i64 (-1)))
      go_wp2_with fail
      go_roundg (N - (i + 1))
      case measure => omega
      case rel => exact ⟨i + 1, by omega, rfl, by go_num, hR2, hB2⟩
    · have hiN : N = i := by omega
      subst hiN
      have hRt := (hR.out.ext (D' := fun _ => -1) fun j hj => by rw [if_pos hj])
      have ct := hRt.cell ht
      have ft := hRt.free t
      have hR2 := hRt.set ht 0
      have hB2 := hB.out.setCell (p := ⟨d, t, none⟩) (by show w.heap.size ≤ d; rw [HD.out]; exact Nat.le_refl _) (.int .i64 0)
      have HR2 := hid hR2
      have HB2 := hid hB2
      clear hRt hR2 hB2 hR hB
      go_upto_region 8 with fail
      obtain ⟨w2, hw2⟩ : ∃ w2, wr.setCell ⟨d, t, none⟩ (.int .i64 0) = w2 := ⟨_, rfl⟩
      rw [hw2] at HR2 HB2 ⊢
      clear hw2 ct ft
      have hal2 := (Below.refl _ w2).alloc (Nat.le_refl _) (.cells #[.int .i64 (t : Int)] 3)
      have HR3 := hid (HR2.out.kept (hal2.block d HR2.out.lt))
      have HB3 := hid (HB2.out.trans (hal2.mono HB2.out.size))
      have HQ3 : Hid (QOwn (w2.alloc (.cells #[.int .i64 (t : Int)] 3)) d w.heap.size (.slice (some ⟨w2.heap.size, 0, none⟩) 1 1) [t]) := hid ⟨w2.heap.size, 0, 1, _, rfl, by have := HR2.out.lt; omega, HB2.out.size, heap_alloc_new w2 _, Nat.le_refl _, by unfold maxLen; omega, by simp, fun i hi => by
        have : i = 0 := by simp at hi; omega
        subst this
        simp⟩
      have HF3 := hid (bfs_start (es := es) (mask := mask) ht)
      clear hal2 HR2 HB2
      go_wp2_with fail
      obtain ⟨D0, hD0⟩ : ∃ D0, D0 = upd (fun _ => (-1 : Int)) t 0 := ⟨_, rfl⟩
      rw [← hD0] at HR3 HF3
      clear hD0
      go_loopg [9] (2 * cntN D0 N + 1) (fun gh s9 wr => ∃ (D : Nat → Int) (Q : List Nat), gh = 2 * cntN D N + Q.length ∧ Hid (QOwn wr d w.heap.size s9 Q) ∧ Hid (IntRow wr d N D) ∧ Hid (Bfs es N mask t D Q) ∧ Hid (Below w.heap.size w wr) ∧ 2 * cntN D N + Q.length ≤ 3000)
      case atStart => exact ⟨D0, [t], rfl, HQ3, HR3, HF3, HB3, by have := cntN_le D0 N; simp; omega⟩
      case round =>
        clear HQ3 HR3 HF3 HB3
        obtain ⟨D, Q, rfl, HQ, HR, HF, HB, hq3⟩ := hrel
        obtain ⟨b, off, cap, cur, rfl, hbd, hBb, hb, hlc, hcm, hcs, hc⟩ := HQ.out
        cases Q with
        | nil =>
          clear hc
          go_wp2_with fail
          go_ret
          exact ⟨d, D, rfl, HF.out.dist, HR.out, by rw [HD.out]; exact Nat.le_refl _, HB.out⟩
        | cons x Q =>
          obtain ⟨cap, rfl⟩ : ∃ c, cap = c + 1 := ⟨cap - 1, by simp at hlc; omega⟩
          have q0 : wr.cell? ⟨b, off, none⟩ = some (.int .i64 (x : Int)) := (blk_cell hb off).trans (hc 0 (by simp))
          have hlq : Q.length ≤ cap := by simp at hlc; omega
          have HP := hid HF.out.pop
          have hxN : x < N := HP.out.hx
          have hxI : (x : Int) < (N : Int) := by omega
          have g3 : wr.cell? ⟨g, 3, none⟩ = some (.slice (some ⟨bb, 0, none⟩) N N) := (HB.out.cell (p := ⟨g, 3, none⟩) (blk_lt H0.out.hg)).trans ((blk_cell H0.out.hg 3).trans rfl)
          obtain ⟨a, c2, hv, hin, _, _⟩ := own_ein (H0.out.row (N + x) (by omega))
          have b3 : wr.cell? ⟨bb, x, none⟩ = some (.slice a (rowE es N (N + x)).length c2) := (HB.out.cell (p := ⟨bb, x, none⟩) (blk_lt H0.out.hb)).trans ((blk_cell H0.out.hb x).trans ((H0.out.cb x hxN).trans (by rw [hv])))
          have HIN := hid hin
          obtain ⟨L, hL⟩ : ∃ L, L = rowE es N (N + x) := ⟨_, rfl⟩
          rw [← hL] at b3 HIN
          have HL := hid hL
          have hdl := HR.out.lt
          have hcN := HF.out.hi
          obtain ⟨M, hM⟩ : ∃ M, M = 2 * cntN D N + Q.length := ⟨_, rfl⟩
          have hM2 : 2 * cntN D N + (x :: Q).length = M + 1 := by rw [hM, List.length_cons]; omega
          have hM3 : M ≤ 3000 := by rw [List.length_cons] at hq3; omega
          clear HF hv hin hL HQ hq3
          by_cases hc0 : cap = 0
          case' pos =>
            subst hc0
            obtain rfl : Q = [] := List.eq_nil_of_length_eq_zero (by omega)
            have HQ2 : Hid (QOwn wr d w.heap.size (.slice (some ⟨b, off, none⟩) 0 0) []) := hid ⟨b, off, 0, cur, rfl, hbd, hBb, hb, Nat.le_refl _, Nat.zero_le _, by omega, fun i hi => by simp at hi⟩
          case' neg =>
            have HQ2 : Hid (QOwn wr d w.heap.size (.slice (some ⟨b, off + 1, none⟩) Q.length cap) Q) := hid ⟨b, off + 1, cap, cur, rfl, hbd, hBb, hb, hlq, by omega, by omega, fun i hi => by
              have := hc (i + 1) (by simp; omega)
              rw [show off + (i + 1) = off + 1 + i by omega] at this
              simpa using this⟩
          all_goals
            clear hc hb hcs hlc
            go_wp2_with fail
            clear q0 g3 b3
            go_loopg [9, 48] L.length (fun gh s9 s48 wr => ∃ (p : Nat) (D : Nat → Int) (Q : List Nat), p ≤ L.length ∧ gh = L.length - p ∧ s48 = .int .i64 p ∧ Hid (QOwn wr d w.heap.size s9 Q) ∧ Hid (IntRow wr d N D) ∧ Hid (Bfi es N mask t D Q x p) ∧ Hid (Below w.heap.size w wr) ∧ 2 * cntN D N + Q.length ≤ M)
            case atStart => exact ⟨0, D, _, Nat.zero_le _, by omega, rfl, HQ2, HR, HP, HB, by omega⟩
            case round =>
              clear HQ2 HR HP HB hcN
              obtain ⟨p, D2, Q2, hp, rfl, rfl, HQ, HR, HP, HB, hms⟩ := hrel
              by_cases hpl : p < L.length
              · have hne : L ≠ [] := by
                  intro h
                  rw [h] at hpl
                  simp at hpl
                obtain ⟨be, rfl, hbl, hce⟩ := (HIN.out.below HB.out) hne
                have hx := hce p hpl
                have hmem := row_mem hxN (show L[p] ∈ rowE es N (N + x) by rw [← HL.out]; exact List.getElem_mem _)
                have hgete : (rowE es N (N + x))[p]? = some L[p] := by rw [← HL.out]; exact List.getElem?_eq_getElem _
                have hok := H0.out.ok _ hmem.1
                generalize L[p] = e at *
                obtain ⟨ef, et, el⟩ := e
                obtain ⟨k1, k2, k3, k4, k5, k6⟩ := hok
                obtain ⟨hm1, hm2⟩ := hmem
                simp only at k1 k2 k3 k4 k5 k6 hm2
                subst hm2
                obtain ⟨u, rfl⟩ := Int.eq_ofNat_of_zero_le k1
                have huN : u < N := by omega
                have HM := hid hm1
                have HG := hid hgete
                have x0 : wr.cell? ⟨be, p * 3, none⟩ = some (.int .i64 (u : Int)) := hx 0 (by omega)
                have x1 : wr.cell? ⟨be, p * 3 + 1, none⟩ = some (.int .i64 (x : Int)) := hx 1 (by omega)
                have x2 : wr.cell? ⟨be, p * 3 + 2, none⟩ = some (.int .i64 el) := hx 2 (by omega)
                have hpI : (p : Int) < (L.length : Int) := by omega
                have hp63 : (p : Int) + 1 ≤ 9223372036854775807 := by
                  have h1 := rowE_len es N (N + x)
                  rw [← HL.out] at h1
                  have := H0.out.len
                  omega
                have hal := (Below.refl _ wr).alloc (Nat.le_refl _) (.cells #[.int .i64 (u : Int), .int .i64 (x : Int), .int .i64 el] 29)
                have hws : w.heap.size ≤ wr.heap.size := HB.out.size
                have X4 : Hid ((wr.alloc (.cells #[.int .i64 (u : Int), .int .i64 (x : Int), .int .i64 el] 29)).heap[wr.heap.size]? = some (.cells #[.int .i64 (u : Int), .int .i64 (x : Int), .int .i64 el] 29 (0, 0))) := hid (heap_alloc_new wr _)
                have HQ4 := hid (HQ.out.below hal)
                have HR4 := hid (HR.out.kept (hal.block d HR.out.lt))
                have HB4 := hid (HB.out.trans (hal.mono hws))
                have hbx : wr.heap.size ≠ d := by have := HR.out.lt; omega
                clear hx hce hgete hm1 hal HQ HR HB
                go_upto_region 15 with fail
                clear x0 x1 x2
                obtain ⟨w4, hw4⟩ : ∃ w4, wr.alloc (.cells #[.int .i64 (u : Int), .int .i64 (x : Int), .int .i64 el] 29) = w4 := ⟨_, rfl⟩
                obtain ⟨bx, hbx2⟩ : ∃ bx, bx = wr.heap.size := ⟨_, rfl⟩
                rw [hw4] at X4 HQ4 HR4 HB4 ⊢
                rw [← hbx2] at X4 hbx ⊢
                clear hw4 hbx2 hws
                have x0 : w4.cell? ⟨bx, 0, none⟩ = some (.int .i64 (u : Int)) := (blk_cell X4.out 0).trans rfl
                have x1 : w4.cell? ⟨bx, 1, none⟩ = some (.int .i64 (x : Int)) := (blk_cell X4.out 1).trans rfl
                have x2 : w4.cell? ⟨bx, 2, none⟩ = some (.int .i64 el) := (blk_cell X4.out 2).trans rfl
                have hinn := in_any ⟨(u : Int), (x : Int), el⟩ mask w4 k5 k6
                cases hin : inM el mask with
                | false =>
                  simp only [hin] at hinn
                  have HI := hid hinn
                  clear hinn
                  go_wp2_with (go_at_call 34; refine HI.out.mono ?_; rintro e w5 ⟨rfl, hla⟩)
                  have HQ5 := hid (HQ4.out.below hla.below)
                  have HR5 := hid (HR4.out.kept (hla.below.block d HR4.out.lt))
                  have HB5 := hid (HB4.out.trans (hla.below.mono HB4.out.size))
                  have HP5 := hid (HP.out.skip HG.out (fun h => by simp [hin] at h) (by simpa using huN))
                  go_roundg (L.length - (p + 1))
                  case measure => omega
                  case rel => exact ⟨p + 1, D2, Q2, by omega, rfl, by go_num, HQ5, HR5, HP5, HB5, hms⟩
                | true =>
                  simp only [hin] at hinn
                  have HI := hid hinn
                  clear hinn
                  have huI : (u : Int) < (N : Int) := by omega
                  by_cases hdu : D2 u < 0
                  · go_upto_region 16 with (go_at_call 34; refine HI.out.mono ?_; rintro e w5 ⟨rfl, hla⟩; have y0 : w5.cell? ⟨bx, 0, none⟩ = some (.int .i64 (u : Int)) := (hla.below.cell (p := ⟨bx, 0, none⟩) (blk_lt X4.out)).trans x0; have du : w5.cell? ⟨d, u, none⟩ = some (.int .i64 (D2 u)) := (hla.below.cell (p := ⟨d, u, none⟩) HR4.out.lt).trans (HR4.out.cell huN))
                    have HQ5 := hid (HQ4.out.below hla.below)
                    have HR5 := hid (HR4.out.kept (hla.below.block d HR4.out.lt))
                    have HB5 := hid (HB4.out.trans (hla.below.mono HB4.out.size))
                    have dx5 : w5.cell? ⟨d, x, none⟩ = some (.int .i64 (D2 x)) := HR5.out.cell hxN
                    have fu5 := HR5.out.free u
                    have hb5 : bx < w5.heap.size := Nat.lt_of_lt_of_le (blk_lt X4.out) hla.below.size
                    have hwrap : IntKind.i64.wrap (D2 x + 1) = D2 x + 1 := by
                      have h1 := HP.out.hi x hxN
                      have h2 := HP.out.dx
                      rw [IntKind.wrap_i64]
                      omega
                    clear x0 x1 x2 HI hla HQ4 HR4 HB4
                    go_region
                    all_goals
                      have R6 := hid ((HR5.out.set huN (D2 x + 1)).kept (w' := (w5.setCell ⟨d, u, none⟩ (.int .i64 (D2 x + 1))).drew) rfl)
                      have Q6 := hid (HQ5.out.kept (w' := (w5.setCell ⟨d, u, none⟩ (.int .i64 (D2 x + 1))).drew) fun k hk _ _ => Below.heap_setCell w5 ⟨d, u, none⟩ _ k hk)
                      have B6 := hid (HB5.out.setCell (p := ⟨d, u, none⟩) (by show w.heap.size ≤ d; rw [HD.out]; exact Nat.le_refl _) (.int .i64 (D2 x + 1))).drew
                      have y6 : (w5.setCell ⟨d, u, none⟩ (.int .i64 (D2 x + 1))).drew.cell? ⟨bx, 0, none⟩ = some (.int .i64 (u : Int)) := (World.cell?_of_block (w := w5) (a := ⟨bx, 0, none⟩) (Below.heap_setCell w5 ⟨d, u, none⟩ _ bx hbx)).trans y0
                      clear y0 du dx5 fu5 HQ5 HR5 HB5 hwrap hb5
                      obtain ⟨w6, hw6⟩ : ∃ w6, (w5.setCell ⟨d, u, none⟩ (.int .i64 (D2 x + 1))).drew = w6 := ⟨_, rfl⟩
                      rw [hw6] at R6 Q6 B6 y6 ⊢
                      clear hw6
                      have hal6 := (Below.refl _ w6).alloc (Nat.le_refl _) (.cells #[.int .i64 (u : Int)] 3)
                      obtain ⟨v', w8, hrun, hQ8, hd8, hB8, _⟩ := q_append (Q6.out.below hal6) (Nat.le_trans B6.out.size hal6.size) (Nat.lt_of_lt_of_le R6.out.lt hal6.size) u 38 w6.heap.size (heap_alloc_new w6 _) (by omega)
                      have HQ8 := hid hQ8
                      have HR8 := hid ((R6.out.kept (hal6.block d R6.out.lt)).kept hd8)
                      have HB8 := hid ((B6.out.trans (hal6.mono B6.out.size)).trans hB8)
                      have HP8 := hid (HP.out.push HG.out HM.out hin rfl rfl huN hdu)
                      have hcu := cntN_upd D2 u (D2 x + 1) hdu (by have := HP.out.dx; omega) N
                      rw [if_pos huN] at hcu
                      clear hQ8 hd8 hB8 hal6 Q6 R6 B6
                      go_wp2_with (at_builtin; refine wpList_append_run _ rfl (.tmp 72) (.tmp 75) 38 38 rfl _ _ rfl rfl hrun ?_)
                      go_roundg (L.length - (p + 1))
                      case measure => omega
                      case rel => exact ⟨p + 1, _, Q2 ++ [u], by omega, rfl, by go_num, HQ8, HR8, HP8, HB8, by simp; omega⟩
                  · have hdu2 := hid (Int.not_lt.1 hdu)
                    have dd : decide (D2 u < 0) = false := decide_eq_false hdu
                    clear hdu
                    go_wp2_with (go_at_call 34; refine HI.out.mono ?_; rintro e w5 ⟨rfl, hla⟩; have y0 : w5.cell? ⟨bx, 0, none⟩ = some (.int .i64 (u : Int)) := (hla.below.cell (p := ⟨bx, 0, none⟩) (blk_lt X4.out)).trans x0; have du : w5.cell? ⟨d, u, none⟩ = some (.int .i64 (D2 u)) := (hla.below.cell (p := ⟨d, u, none⟩) HR4.out.lt).trans (HR4.out.cell huN))
                    have HQ5 := hid (HQ4.out.below hla.below)
                    have HR5 := hid (HR4.out.kept (hla.below.block d HR4.out.lt))
                    have HB5 := hid (HB4.out.trans (hla.below.mono HB4.out.size))
                    have HP5 := hid (HP.out.skip HG.out (fun _ => by simpa using hdu2.out) (by simpa using huN))
                    go_roundg (L.length - (p + 1))
                    case measure => omega
                    case rel => exact ⟨p + 1, D2, Q2, by omega, rfl, by go_num, HQ5, HR5, HP5, HB5, hms⟩
              · have hpe : p = L.length := by omega
                have HF := hid (HP.out.done (by rw [hpe, HL.out]))
                go_wp2_with fail
                go_roundg (2 * cntN D2 N + Q2.length)
                case measure => omega
                case rel => exact ⟨D2, Q2, rfl, HQ, HR, HF, HB, by omega⟩
end Go.Proofs.Ytbbfbkoanbdghaa
