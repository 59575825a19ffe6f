/- The document's Sort. No statement is proved here. -/
import Derived.Test.YtgimpkbknaopcaaVY
import Derived.Deep.LoopGhost
import Derived.Shelf.SlSortCmp.QuietGrown
import Derived.Test.YtgimpkbknaopcaaVG
set_option linter.unusedVariables false
set_option linter.unusedSimpArgs false
namespace Go.Proofs.Ytgimpkbknaopcaa
open Go.RowKit

theorem mergeV_length : ∀ (n : Nat) (a b : List V), a.length + b.length ≤ n → (mergeV a b).length = a.length + b.length := by
  intro n
  induction n with
  | zero =>
    intro a b h
    obtain rfl := List.eq_nil_of_length_eq_zero (show a.length = 0 by omega)
    obtain rfl := List.eq_nil_of_length_eq_zero (show b.length = 0 by omega)
    simp [mergeV]
  | succ n ih =>
    intro a b h
    cases a with
    | nil => simp [mergeV]
    | cons x a =>
      cases b with
      | nil => simp [mergeV]
      | cons y b =>
        simp only [List.length_cons] at h
        rw [mergeV]
        by_cases hb : ltV y x
        · rw [if_pos hb, List.length_cons, ih (x :: a) b (by simp only [List.length_cons]; omega)]; simp; omega
        · rw [if_neg hb, List.length_cons, ih a (y :: b) (by simp only [List.length_cons]; omega)]; simp; omega
theorem sortV_length : ∀ (n : Nat) (l : List V), l.length ≤ n → (sortV l).length = l.length := by
  intro n
  induction n with
  | zero =>
    intro l h
    obtain rfl := List.eq_nil_of_length_eq_zero (show l.length = 0 by omega)
    unfold sortV
    simp
  | succ n ih =>
    intro l h
    unfold sortV
    by_cases h2 : l.length < 2
    · rw [dif_pos h2]
    · rw [dif_neg h2, mergeV_length _ _ _ (Nat.le_refl _), ih _ (by simp; omega), ih _ (by simp; omega)]
      simp
      omega

set_option maxHeartbeats 4000000 in
set_option maxRecDepth 100000 in
theorem sort_ref : ∀ (n : Nat) (l : List V) (a : Option Addr) (cap : Nat) (w : World), l.length ≤ n → l.length ≤ cap → l.length ≤ 1172812402960 → VIn w a l → (a = none → l = []) →
    Calls Try.prog 20 #[.slice a l.length cap] w (SortPost w l) := by
  intro n
  induction n with
  | zero => intro l a cap w hl _ _ ha hnil; exact sort_small a cap l w ha (by omega) hnil
  | succ n ih =>
    intro l a cap w hl hcap hbig ha hnil
    by_cases h2 : l.length < 2
    · exact sort_small a cap l w ha h2 hnil
    obtain ⟨b, o, rfl, hbl, _⟩ := ha (by rintro rfl; simp at h2)
    obtain ⟨m, hm⟩ : ∃ m, m = l.length := ⟨_, rfl⟩
    obtain ⟨k, hk⟩ : ∃ k, k = m / 2 := ⟨_, rfl⟩
    have hk1 : k < m := by omega
    have hA1 := ih (l.take k) (some ⟨b, o, none⟩) cap w (by simp; omega) (by simp; omega) (by simp; omega) (ha.take k) (fun h => by cases h)
    rw [show (l.take k).length = k by simp; omega] at hA1
    have hs : sortV l = mergeV (sortV (l.take k)) (sortV (l.drop k)) := by rw [hk, hm]; conv => lhs; unfold sortV; rw [dif_neg h2]
    have hdiv : ((m : Int)).tdiv 2 = (k : Int) := by
      have : ((m : Int)).tdiv ((2 : Nat) : Int) = ((m / 2 : Nat) : Int) := by rw [Int.ofNat_tdiv]
      rw [hk]; exact this
    rw [← hm] at hcap hbig h2 ⊢
    have d0 : decide ((m : Int) < 2) = false := decide_eq_false (by omega)
    have d1 : decide (m < 2) = false := decide_eq_false h2
    have hkm : (k : Int) ≤ (m : Int) := by omega
    have hkc : k ≤ cap := by omega
    have hkc2 : (k : Int) ≤ (cap : Int) := by omega
    have HA1 := hid hA1
    have HM := hid hm
    have HK := hid hk
    have HS := hid hs
    have HV := hid ha
    have HL := hid hl
    clear hA1 hm hk hs ha hnil hl
    go_enter Try.func20, Try.ntmps20
    go_wp2_with fail
    refine HA1.out.mono ?_
    rintro e w1 ⟨v1, rfl, ho1, hn1, hb1⟩
    have HB1 := hid hb1
    have HO1 := hid ho1
    have hA2 := ih (l.drop k) (some ⟨b, o + k * 12, none⟩) (cap - k) w1 (by have := HM.out; have := HL.out; have := HK.out; simp; omega) (by have := HM.out; simp; omega) (by have := HM.out; simp; omega) ((HV.out.below hb1).drop k) (fun h => by cases h)
    rw [show (l.drop k).length = m - k by have := HM.out; simp; omega] at hA2
    have HA2 := hid hA2
    clear ho1 hb1 HA1 hA2
    go_wp2_with fail
    refine HA2.out.mono ?_
    rintro e w2 ⟨v2, rfl, ho2, hn2, hb2⟩
    have HO1' := hid (ownV_below HO1.out hb2)
    have HO2 := hid ho2
    have HB2 := hid (HB1.out.trans (hb2.mono HB1.out.size))
    clear ho2 hb2 HO1 HB1 HA2
    obtain ⟨ti, hi, hz0, hz1, hz2⟩ := info_parts infoV
    have hmk : ∀ u : World, (Instr.makeSlice 28 (.int .i64 0) (.int .i64 (m : Int))).run Try.prog u = .ok (.slice (some ⟨u.heap.size, 0, none⟩) 0 m) (u.alloc (.cells (madeCells #[.int .i64 0, .int .i64 0, .int .i64 0, .int .i64 0, .int .i64 0, .string .empty, .bool false, .string .empty, .bool false, .string .empty, .int .i64 0, .int .i64 0] (m * 12)) 30)) := fun u => by
      have h := run_make (P := Try.prog) u 28 30 ti _ Try.underlying28 hi hz0 .i64 .i64 0 (m : Int) (by omega) (by omega) (by rw [hz2]; omega) (by omega)
      rw [hz1] at h
      simpa [Value.cells] using h
    obtain ⟨A, hA⟩ : ∃ A, A = sortV (l.take k) := ⟨_, rfl⟩
    obtain ⟨Bb, hB⟩ : ∃ Bb, Bb = sortV (l.drop k) := ⟨_, rfl⟩
    rw [← hA] at HO1'
    rw [← hB] at HO2
    have HAB := hid (show sortV l = mergeV A Bb by rw [hA, hB]; exact HS.out)
    clear hA hB HS
    obtain ⟨aA, cA, rfl, hvA⟩ := own_vin HO1'.out
    obtain ⟨aB, cB, rfl, hvB⟩ := own_vin HO2.out
    have HVA := hid hvA
    have HVB := hid hvB
    clear hvA hvB HO1' HO2 HV ih
    go_wp2_with fail
    clear hmk
    have hlen := hid (show A.length + Bb.length = m by rw [← mergeV_length _ A Bb (Nat.le_refl _), ← HAB.out, sortV_length _ l (Nat.le_refl _)]; exact HM.out.symm)
    have hal := (Below.refl _ w2).alloc (Nat.le_refl _) (.cells (madeCells #[.int .i64 0, .int .i64 0, .int .i64 0, .int .i64 0, .int .i64 0, .string .empty, .bool false, .string .empty, .bool false, .string .empty, .int .i64 0, .int .i64 0] (m * 12)) 30)
    have h0 : OwnV (w2.alloc (.cells (madeCells #[.int .i64 0, .int .i64 0, .int .i64 0, .int .i64 0, .int .i64 0, .string .empty, .bool false, .string .empty, .bool false, .string .empty, .int .i64 0, .int .i64 0] (m * 12)) 30)) (.slice (some ⟨w2.heap.size, 0, none⟩) 0 m) [] := ⟨rfl, .inr ⟨w2.heap.size, m, _, rfl, Nat.zero_le _, heap_alloc_new w2 _, Nat.zero_le _, by unfold maxLen; omega, by simp [madeCells], rfl⟩⟩
    have R0 := hid h0
    have RB := hid hal
    have RA := hid (HVA.out.below hal)
    have RBv := hid (HVB.out.below hal)
    have hsz := hid (show w.heap.size ≤ w2.heap.size from HB2.out.size)
    clear h0 hal
    go_loopg [5, 6, 7] m (fun gh s5 s6 s7 wr => ∃ (i j : Nat) (O : List V), i ≤ A.length ∧ j ≤ Bb.length ∧ gh = (A.length - i) + (Bb.length - j) ∧ s6 = .int .i64 i ∧ s7 = .int .i64 j ∧ Hid (OwnV wr s5 O) ∧ Hid (O.length = i + j) ∧ Hid (O ++ mergeV (A.drop i) (Bb.drop j) = mergeV A Bb) ∧ Hid (∀ q, s5.ownBlock = some q → w2.heap.size ≤ q) ∧ Hid (Below w2.heap.size w2 wr))
    case atStart => exact ⟨0, 0, [], Nat.zero_le _, Nat.zero_le _, by have := hlen.out; omega, rfl, rfl, R0, hid rfl, hid (by simp), hid (fun q hq => by cases hq; exact Nat.le_refl _), RB⟩
    case round =>
      clear R0 RB RA RBv
      obtain ⟨i, j, O, hiA, hjB, rfl, rfl, rfl, hO, hOl, hE, hN, hBel⟩ := hrel
      have RA := hid (HVA.out.below hBel.out)
      have RBv := hid (HVB.out.below hBel.out)
      by_cases c1 : i < A.length
      · have e1 : (i : Int) < (A.length : Int) := by omega
        have e2 : decide (i < A.length) = true := decide_eq_true c1
        by_cases c2 : j < Bb.length
        · have e3 : (j : Int) < (Bb.length : Int) := by omega
          have e4 : decide (j < Bb.length) = true := decide_eq_true c2
          have e5 : decide ((Bb.length : Int) ≤ (j : Int)) = false := decide_eq_false (by omega)
          have e6 : decide (Bb.length ≤ j) = false := decide_eq_false (by omega)
          have mixed := mixedT
          obtain ⟨blkx, offx, hax, hlx, hcx⟩ := RA.out (by intro h; rw [h] at c1; simp at c1)
          have hx := hcx i c1
          have x0 := fun n os => cell_grown (a := ⟨blkx, offx + i * 12, none⟩) hlx (hx 0 (by omega) : wr.cell? _ = some (.int .i64 A[i].kind)) n os
          have x1 := fun n os => cell_grown (a := ⟨blkx, offx + i * 12 + 1, none⟩) hlx (hx 1 (by omega) : wr.cell? _ = some (.int .i64 A[i].time)) n os
          have x2 := fun n os => cell_grown (a := ⟨blkx, offx + i * 12 + 2, none⟩) hlx (hx 2 (by omega) : wr.cell? _ = some (.int .i64 A[i].txn)) n os
          have x3 := fun n os => cell_grown (a := ⟨blkx, offx + i * 12 + 3, none⟩) hlx (hx 3 (by omega) : wr.cell? _ = some (.int .i64 A[i].op)) n os
          have x4 := fun n os => cell_grown (a := ⟨blkx, offx + i * 12 + 4, none⟩) hlx (hx 4 (by omega) : wr.cell? _ = some (.int .i64 A[i].wit)) n os
          have x5 := fun n os => cell_grown (a := ⟨blkx, offx + i * 12 + 5, none⟩) hlx (hx 5 (by omega) : wr.cell? _ = some (.string A[i].key)) n os
          have x6 := fun n os => cell_grown (a := ⟨blkx, offx + i * 12 + 6, none⟩) hlx (hx 6 (by omega) : wr.cell? _ = some (.bool A[i].want)) n os
          have x7 := fun n os => cell_grown (a := ⟨blkx, offx + i * 12 + 7, none⟩) hlx (hx 7 (by omega) : wr.cell? _ = some (.string A[i].exp)) n os
          have x8 := fun n os => cell_grown (a := ⟨blkx, offx + i * 12 + 8, none⟩) hlx (hx 8 (by omega) : wr.cell? _ = some (.bool A[i].got)) n os
          have x9 := fun n os => cell_grown (a := ⟨blkx, offx + i * 12 + 9, none⟩) hlx (hx 9 (by omega) : wr.cell? _ = some (.string A[i].obs)) n os
          have x10 := fun n os => cell_grown (a := ⟨blkx, offx + i * 12 + 10, none⟩) hlx (hx 10 (by omega) : wr.cell? _ = some (.int .i64 A[i].frm)) n os
          have x11 := fun n os => cell_grown (a := ⟨blkx, offx + i * 12 + 11, none⟩) hlx (hx 11 (by omega) : wr.cell? _ = some (.int .i64 A[i].to)) n os
          obtain ⟨blky, offy, hay, hly, hcy⟩ := RBv.out (by intro h; rw [h] at c2; simp at c2)
          have hy := hcy j c2
          have y0 := fun n os => cell_grown (a := ⟨blky, offy + j * 12, none⟩) hly (hy 0 (by omega) : wr.cell? _ = some (.int .i64 Bb[j].kind)) n os
          have y1 := fun n os => cell_grown (a := ⟨blky, offy + j * 12 + 1, none⟩) hly (hy 1 (by omega) : wr.cell? _ = some (.int .i64 Bb[j].time)) n os
          have y2 := fun n os => cell_grown (a := ⟨blky, offy + j * 12 + 2, none⟩) hly (hy 2 (by omega) : wr.cell? _ = some (.int .i64 Bb[j].txn)) n os
          have y3 := fun n os => cell_grown (a := ⟨blky, offy + j * 12 + 3, none⟩) hly (hy 3 (by omega) : wr.cell? _ = some (.int .i64 Bb[j].op)) n os
          have y4 := fun n os => cell_grown (a := ⟨blky, offy + j * 12 + 4, none⟩) hly (hy 4 (by omega) : wr.cell? _ = some (.int .i64 Bb[j].wit)) n os
          have y5 := fun n os => cell_grown (a := ⟨blky, offy + j * 12 + 5, none⟩) hly (hy 5 (by omega) : wr.cell? _ = some (.string Bb[j].key)) n os
          have y6 := fun n os => cell_grown (a := ⟨blky, offy + j * 12 + 6, none⟩) hly (hy 6 (by omega) : wr.cell? _ = some (.bool Bb[j].want)) n os
          have y7 := fun n os => cell_grown (a := ⟨blky, offy + j * 12 + 7, none⟩) hly (hy 7 (by omega) : wr.cell? _ = some (.string Bb[j].exp)) n os
          have y8 := fun n os => cell_grown (a := ⟨blky, offy + j * 12 + 8, none⟩) hly (hy 8 (by omega) : wr.cell? _ = some (.bool Bb[j].got)) n os
          have y9 := fun n os => cell_grown (a := ⟨blky, offy + j * 12 + 9, none⟩) hly (hy 9 (by omega) : wr.cell? _ = some (.string Bb[j].obs)) n os
          have y10 := fun n os => cell_grown (a := ⟨blky, offy + j * 12 + 10, none⟩) hly (hy 10 (by omega) : wr.cell? _ = some (.int .i64 Bb[j].frm)) n os
          have y11 := fun n os => cell_grown (a := ⟨blky, offy + j * 12 + 11, none⟩) hly (hy 11 (by omega) : wr.cell? _ = some (.int .i64 Bb[j].to)) n os
          subst hax
          subst hay
          clear hcx hcy hx hy
          cases hv : decide (ltV Bb[j] A[i]) with
          | true =>
            have hEq : mergeV (A.drop i) (Bb.drop j) = Bb[j] :: mergeV (A.drop i) (Bb.drop (j + 1)) := by
              rw [List.drop_eq_getElem_cons c1, List.drop_eq_getElem_cons c2, mergeV, if_pos (of_decide_eq_true hv)]
            have hc : ∀ W : World, Calls Try.prog 21 #[(Bb[j]).agg, (A[i]).agg] W fun e w' => e = .returned (.bool true) ∧ Laid W w' := fun W => by rw [← hv]; exact before_any Bb[j] A[i] W
            have HC := hid hc
            have HV9 := hid hv
            clear hc hv
            go_upto_region 9 with fail
            go_quiet_grown (first | (go_at_call 21; refine Calls.grown_of (HC.out _)))
            have hL : Below wr.heap.size wr (Go.Sort.grow (wr.drewN nq) osq) := Laid.below ⟨nq, osq, rfl⟩
            have hO5 := hid (ownV_below hO.out hL)
            have RA5 := hid (RA.out.below hL)
            have RB5 := hid (RBv.out.below hL)
            have hB5 := hid (hBel.out.trans (hL.mono hBel.out.size))
            clear hO RA RBv hBel
            clear hL x0 y0 x1 y1 x2 y2 x3 y3 x4 y4 x5 y5 x6 y6 x7 y7 x8 y8 x9 y9 x10 y10 x11 y11 HC
            generalize Go.Sort.grow (wr.drewN nq) osq = w5 at *
            obtain ⟨bx, ox, hax, hxl, hxc⟩ := RB5.out (by intro h; rw [h] at c2; simp at c2)
            cases hax
            have hx := hxc j c2
            clear hxc
            have HEq := hid hEq
            clear hEq
            generalize Bb[j] = p at *
            have x0 : w5.cell? ⟨blky, offy + j * 12, none⟩ = some (.int .i64 p.kind) := hx 0 (by omega)
            have x1 : w5.cell? ⟨blky, offy + j * 12 + 1, none⟩ = some (.int .i64 p.time) := hx 1 (by omega)
            have x2 : w5.cell? ⟨blky, offy + j * 12 + 2, none⟩ = some (.int .i64 p.txn) := hx 2 (by omega)
            have x3 : w5.cell? ⟨blky, offy + j * 12 + 3, none⟩ = some (.int .i64 p.op) := hx 3 (by omega)
            have x4 : w5.cell? ⟨blky, offy + j * 12 + 4, none⟩ = some (.int .i64 p.wit) := hx 4 (by omega)
            have x5 : w5.cell? ⟨blky, offy + j * 12 + 5, none⟩ = some (.string p.key) := hx 5 (by omega)
            have x6 : w5.cell? ⟨blky, offy + j * 12 + 6, none⟩ = some (.bool p.want) := hx 6 (by omega)
            have x7 : w5.cell? ⟨blky, offy + j * 12 + 7, none⟩ = some (.string p.exp) := hx 7 (by omega)
            have x8 : w5.cell? ⟨blky, offy + j * 12 + 8, none⟩ = some (.bool p.got) := hx 8 (by omega)
            have x9 : w5.cell? ⟨blky, offy + j * 12 + 9, none⟩ = some (.string p.obs) := hx 9 (by omega)
            have x10 : w5.cell? ⟨blky, offy + j * 12 + 10, none⟩ = some (.int .i64 p.frm) := hx 10 (by omega)
            have x11 : w5.cell? ⟨blky, offy + j * 12 + 11, none⟩ = some (.int .i64 p.to) := hx 11 (by omega)
            clear hx
            have hal := (Below.refl _ w5).alloc (Nat.le_refl _) (.cells #[.int .i64 p.kind, .int .i64 p.time, .int .i64 p.txn, .int .i64 p.op, .int .i64 p.wit, .string p.key, .bool p.want, .string p.exp, .bool p.got, .string p.obs, .int .i64 p.frm, .int .i64 p.to] 30)
            obtain ⟨v', w8, hrun, hown, hgr, hdis⟩ := app_viol (w5.alloc (.cells #[.int .i64 p.kind, .int .i64 p.time, .int .i64 p.txn, .int .i64 p.op, .int .i64 p.wit, .string p.key, .bool p.want, .string p.exp, .bool p.got, .string p.obs, .int .i64 p.frm, .int .i64 p.to] 30)) 28 u5 O p (ownV_below hO5.out hal) w5.heap.size (heap_alloc_new w5 _) (by have := hOl.out; have := hlen.out; omega)
            have hbn : Below w2.heap.size w2 w8 := (hB5.out.trans (hal.mono hB5.out.size)).trans ((Upd.of_grown hgr).below (Nat.le_trans hB5.out.size hal.size) hN.out)
            have hnn : ∀ q, v'.ownBlock = some q → w2.heap.size ≤ q := by
              intro q hq
              rcases hdis with h1 | ⟨h1, _⟩
              · exact hN.out q (h1 ▸ hq)
              · rw [h1] at hq
                cases hq
                exact Nat.le_trans hB5.out.size hal.size
            have Q1 := hid hown
            have Q2 := hid hnn
            have Q3 := hid hbn
            have Q4 : Hid ((O ++ [p]).length = (i) + (j + 1)) := hid (by have := hOl.out; rw [List.length_append]; simp only [List.length_cons, List.length_nil]; omega)
            have Q5 : Hid ((O ++ [p]) ++ mergeV (A.drop (i)) (Bb.drop (j + 1)) = mergeV A Bb) := hid (by rw [List.append_assoc, List.singleton_append, ← HEq.out]; exact hE.out)
            have hi9 : (i : Int) + 1 ≤ 9223372036854775807 := by have := hlen.out; omega
            have hj9 : (j : Int) + 1 ≤ 9223372036854775807 := by have := hlen.out; omega
            clear hown hgr hdis hbn hnn hal hO5 RA5 RB5 hB5 hE hN hOl
            go_wp2_with (at_builtin; refine wpList_append_run _ rfl (.tmp 70) (.tmp 75) 28 28 rfl _ _ rfl rfl hrun ?_)
            go_roundg ((A.length - (i)) + (Bb.length - (j + 1)))
            case measure => omega
            case rel => exact ⟨i, j + 1, O ++ [p], by omega, by omega, rfl, by go_num, by go_num, Q1, Q4, Q5, Q2, Q3⟩
          | false =>
            have hEq : mergeV (A.drop i) (Bb.drop j) = A[i] :: mergeV (A.drop (i + 1)) (Bb.drop j) := by
              rw [List.drop_eq_getElem_cons c1, List.drop_eq_getElem_cons c2, mergeV, if_neg (of_decide_eq_false hv)]
            have hc : ∀ W : World, Calls Try.prog 21 #[(Bb[j]).agg, (A[i]).agg] W fun e w' => e = .returned (.bool false) ∧ Laid W w' := fun W => by rw [← hv]; exact before_any Bb[j] A[i] W
            have HC := hid hc
            have HV9 := hid hv
            clear hc hv
            go_upto_region 9 with fail
            go_quiet_grown (first | (go_at_call 21; refine Calls.grown_of (HC.out _)))
            have hL : Below wr.heap.size wr (Go.Sort.grow (wr.drewN nq) osq) := Laid.below ⟨nq, osq, rfl⟩
            have hO5 := hid (ownV_below hO.out hL)
            have RA5 := hid (RA.out.below hL)
            have RB5 := hid (RBv.out.below hL)
            have hB5 := hid (hBel.out.trans (hL.mono hBel.out.size))
            clear hO RA RBv hBel
            clear hL x0 y0 x1 y1 x2 y2 x3 y3 x4 y4 x5 y5 x6 y6 x7 y7 x8 y8 x9 y9 x10 y10 x11 y11 HC
            generalize Go.Sort.grow (wr.drewN nq) osq = w5 at *
            obtain ⟨bx, ox, hax, hxl, hxc⟩ := RA5.out (by intro h; rw [h] at c1; simp at c1)
            cases hax
            have hx := hxc i c1
            clear hxc
            have HEq := hid hEq
            clear hEq
            generalize A[i] = p at *
            have x0 : w5.cell? ⟨blkx, offx + i * 12, none⟩ = some (.int .i64 p.kind) := hx 0 (by omega)
            have x1 : w5.cell? ⟨blkx, offx + i * 12 + 1, none⟩ = some (.int .i64 p.time) := hx 1 (by omega)
            have x2 : w5.cell? ⟨blkx, offx + i * 12 + 2, none⟩ = some (.int .i64 p.txn) := hx 2 (by omega)
            have x3 : w5.cell? ⟨blkx, offx + i * 12 + 3, none⟩ = some (.int .i64 p.op) := hx 3 (by omega)
            have x4 : w5.cell? ⟨blkx, offx + i * 12 + 4, none⟩ = some (.int .i64 p.wit) := hx 4 (by omega)
            have x5 : w5.cell? ⟨blkx, offx + i * 12 + 5, none⟩ = some (.string p.key) := hx 5 (by omega)
            have x6 : w5.cell? ⟨blkx, offx + i * 12 + 6, none⟩ = some (.bool p.want) := hx 6 (by omega)
            have x7 : w5.cell? ⟨blkx, offx + i * 12 + 7, none⟩ = some (.string p.exp) := hx 7 (by omega)
            have x8 : w5.cell? ⟨blkx, offx + i * 12 + 8, none⟩ = some (.bool p.got) := hx 8 (by omega)
            have x9 : w5.cell? ⟨blkx, offx + i * 12 + 9, none⟩ = some (.string p.obs) := hx 9 (by omega)
            have x10 : w5.cell? ⟨blkx, offx + i * 12 + 10, none⟩ = some (.int .i64 p.frm) := hx 10 (by omega)
            have x11 : w5.cell? ⟨blkx, offx + i * 12 + 11, none⟩ = some (.int .i64 p.to) := hx 11 (by omega)
            clear hx
            have hal := (Below.refl _ w5).alloc (Nat.le_refl _) (.cells #[.int .i64 p.kind, .int .i64 p.time, .int .i64 p.txn, .int .i64 p.op, .int .i64 p.wit, .string p.key, .bool p.want, .string p.exp, .bool p.got, .string p.obs, .int .i64 p.frm, .int .i64 p.to] 30)
            obtain ⟨v', w8, hrun, hown, hgr, hdis⟩ := app_viol (w5.alloc (.cells #[.int .i64 p.kind, .int .i64 p.time, .int .i64 p.txn, .int .i64 p.op, .int .i64 p.wit, .string p.key, .bool p.want, .string p.exp, .bool p.got, .string p.obs, .int .i64 p.frm, .int .i64 p.to] 30)) 28 u5 O p (ownV_below hO5.out hal) w5.heap.size (heap_alloc_new w5 _) (by have := hOl.out; have := hlen.out; omega)
            have hbn : Below w2.heap.size w2 w8 := (hB5.out.trans (hal.mono hB5.out.size)).trans ((Upd.of_grown hgr).below (Nat.le_trans hB5.out.size hal.size) hN.out)
            have hnn : ∀ q, v'.ownBlock = some q → w2.heap.size ≤ q := by
              intro q hq
              rcases hdis with h1 | ⟨h1, _⟩
              · exact hN.out q (h1 ▸ hq)
              · rw [h1] at hq
                cases hq
                exact Nat.le_trans hB5.out.size hal.size
            have Q1 := hid hown
            have Q2 := hid hnn
            have Q3 := hid hbn
            have Q4 : Hid ((O ++ [p]).length = (i + 1) + (j)) := hid (by have := hOl.out; rw [List.length_append]; simp only [List.length_cons, List.length_nil]; omega)
            have Q5 : Hid ((O ++ [p]) ++ mergeV (A.drop (i + 1)) (Bb.drop (j)) = mergeV A Bb) := hid (by rw [List.append_assoc, List.singleton_append, ← HEq.out]; exact hE.out)
            have hi9 : (i : Int) + 1 ≤ 9223372036854775807 := by have := hlen.out; omega
            have hj9 : (j : Int) + 1 ≤ 9223372036854775807 := by have := hlen.out; omega
            clear hown hgr hdis hbn hnn hal hO5 RA5 RB5 hB5 hE hN hOl
            go_wp2_with (at_builtin; refine wpList_append_run _ rfl (.tmp 61) (.tmp 66) 28 28 rfl _ _ rfl rfl hrun ?_)
            go_roundg ((A.length - (i + 1)) + (Bb.length - (j)))
            case measure => omega
            case rel => exact ⟨i + 1, j, O ++ [p], by omega, by omega, rfl, by go_num, by go_num, Q1, Q4, Q5, Q2, Q3⟩
        · have e3 : decide ((j : Int) < (Bb.length : Int)) = false := decide_eq_false (by omega)
          have e4 : decide (j < Bb.length) = false := decide_eq_false c2
          have e5 : decide ((Bb.length : Int) ≤ (j : Int)) = true := decide_eq_true (by omega)
          have e6 : decide (Bb.length ≤ j) = true := decide_eq_true (by omega)
          have hEq : mergeV (A.drop i) (Bb.drop j) = A[i] :: mergeV (A.drop (i + 1)) (Bb.drop j) := by
            rw [List.drop_of_length_le (show Bb.length ≤ j by omega), List.drop_eq_getElem_cons c1]
            cases A.drop (i + 1) <;> simp [mergeV]
          go_upto_region 9 with fail
          go_quiet (fail)
          have hq : Below wr.heap.size wr (wr.drewN nq) := Below.drewN (Below.refl _ _) _
          have hO5 := hid (ownV_below hO.out hq)
          have RA5 := hid (RA.out.below hq)
          have RB5 := hid (RBv.out.below hq)
          have hB5 := hid (hBel.out.trans (hq.mono hBel.out.size))
          clear hO RA RBv hBel
          clear hq
          generalize wr.drewN nq = w5 at *
          obtain ⟨bx, ox, hax, hxl, hxc⟩ := RA5.out (by intro h; rw [h] at c1; simp at c1)
          cases hax
          have hx := hxc i c1
          clear hxc
          have HEq := hid hEq
          clear hEq
          generalize A[i] = p at *
          have x0 : w5.cell? ⟨bx, ox + i * 12, none⟩ = some (.int .i64 p.kind) := hx 0 (by omega)
          have x1 : w5.cell? ⟨bx, ox + i * 12 + 1, none⟩ = some (.int .i64 p.time) := hx 1 (by omega)
          have x2 : w5.cell? ⟨bx, ox + i * 12 + 2, none⟩ = some (.int .i64 p.txn) := hx 2 (by omega)
          have x3 : w5.cell? ⟨bx, ox + i * 12 + 3, none⟩ = some (.int .i64 p.op) := hx 3 (by omega)
          have x4 : w5.cell? ⟨bx, ox + i * 12 + 4, none⟩ = some (.int .i64 p.wit) := hx 4 (by omega)
          have x5 : w5.cell? ⟨bx, ox + i * 12 + 5, none⟩ = some (.string p.key) := hx 5 (by omega)
          have x6 : w5.cell? ⟨bx, ox + i * 12 + 6, none⟩ = some (.bool p.want) := hx 6 (by omega)
          have x7 : w5.cell? ⟨bx, ox + i * 12 + 7, none⟩ = some (.string p.exp) := hx 7 (by omega)
          have x8 : w5.cell? ⟨bx, ox + i * 12 + 8, none⟩ = some (.bool p.got) := hx 8 (by omega)
          have x9 : w5.cell? ⟨bx, ox + i * 12 + 9, none⟩ = some (.string p.obs) := hx 9 (by omega)
          have x10 : w5.cell? ⟨bx, ox + i * 12 + 10, none⟩ = some (.int .i64 p.frm) := hx 10 (by omega)
          have x11 : w5.cell? ⟨bx, ox + i * 12 + 11, none⟩ = some (.int .i64 p.to) := hx 11 (by omega)
          clear hx
          have hal := (Below.refl _ w5).alloc (Nat.le_refl _) (.cells #[.int .i64 p.kind, .int .i64 p.time, .int .i64 p.txn, .int .i64 p.op, .int .i64 p.wit, .string p.key, .bool p.want, .string p.exp, .bool p.got, .string p.obs, .int .i64 p.frm, .int .i64 p.to] 30)
          obtain ⟨v', w8, hrun, hown, hgr, hdis⟩ := app_viol (w5.alloc (.cells #[.int .i64 p.kind, .int .i64 p.time, .int .i64 p.txn, .int .i64 p.op, .int .i64 p.wit, .string p.key, .bool p.want, .string p.exp, .bool p.got, .string p.obs, .int .i64 p.frm, .int .i64 p.to] 30)) 28 u5 O p (ownV_below hO5.out hal) w5.heap.size (heap_alloc_new w5 _) (by have := hOl.out; have := hlen.out; omega)
          have hbn : Below w2.heap.size w2 w8 := (hB5.out.trans (hal.mono hB5.out.size)).trans ((Upd.of_grown hgr).below (Nat.le_trans hB5.out.size hal.size) hN.out)
          have hnn : ∀ q, v'.ownBlock = some q → w2.heap.size ≤ q := by
            intro q hq
            rcases hdis with h1 | ⟨h1, _⟩
            · exact hN.out q (h1 ▸ hq)
            · rw [h1] at hq
              cases hq
              exact Nat.le_trans hB5.out.size hal.size
          have Q1 := hid hown
          have Q2 := hid hnn
          have Q3 := hid hbn
          have Q4 : Hid ((O ++ [p]).length = (i + 1) + (j)) := hid (by have := hOl.out; rw [List.length_append]; simp only [List.length_cons, List.length_nil]; omega)
          have Q5 : Hid ((O ++ [p]) ++ mergeV (A.drop (i + 1)) (Bb.drop (j)) = mergeV A Bb) := hid (by rw [List.append_assoc, List.singleton_append, ← HEq.out]; exact hE.out)
          have hi9 : (i : Int) + 1 ≤ 9223372036854775807 := by have := hlen.out; omega
          have hj9 : (j : Int) + 1 ≤ 9223372036854775807 := by have := hlen.out; omega
          clear hown hgr hdis hbn hnn hal hO5 RA5 RB5 hB5 hE hN hOl
          go_wp2_with (at_builtin; refine wpList_append_run _ rfl (.tmp 61) (.tmp 66) 28 28 rfl _ _ rfl rfl hrun ?_)
          go_roundg ((A.length - (i + 1)) + (Bb.length - (j)))
          case measure => omega
          case rel => exact ⟨i + 1, j, O ++ [p], by omega, by omega, rfl, by go_num, by go_num, Q1, Q4, Q5, Q2, Q3⟩
      · by_cases c2 : j < Bb.length
        · have e1 : decide ((i : Int) < (A.length : Int)) = false := decide_eq_false (by omega)
          have e2 : decide (i < A.length) = false := decide_eq_false c1
          have e3 : (j : Int) < (Bb.length : Int) := by omega
          have e4 : decide (j < Bb.length) = true := decide_eq_true c2
          have e5 : decide ((Bb.length : Int) ≤ (j : Int)) = false := decide_eq_false (by omega)
          have e6 : decide (Bb.length ≤ j) = false := decide_eq_false (by omega)
          have hEq : mergeV (A.drop i) (Bb.drop j) = Bb[j] :: mergeV (A.drop i) (Bb.drop (j + 1)) := by
            rw [List.drop_of_length_le (show A.length ≤ i by omega), List.drop_eq_getElem_cons c2]
            simp [mergeV]
          go_upto_region 9 with fail
          go_quiet (fail)
          have hq : Below wr.heap.size wr (wr.drewN nq) := Below.drewN (Below.refl _ _) _
          have hO5 := hid (ownV_below hO.out hq)
          have RA5 := hid (RA.out.below hq)
          have RB5 := hid (RBv.out.below hq)
          have hB5 := hid (hBel.out.trans (hq.mono hBel.out.size))
          clear hO RA RBv hBel
          clear hq
          generalize wr.drewN nq = w5 at *
          obtain ⟨bx, ox, hax, hxl, hxc⟩ := RB5.out (by intro h; rw [h] at c2; simp at c2)
          cases hax
          have hx := hxc j c2
          clear hxc
          have HEq := hid hEq
          clear hEq
          generalize Bb[j] = p at *
          have x0 : w5.cell? ⟨bx, ox + j * 12, none⟩ = some (.int .i64 p.kind) := hx 0 (by omega)
          have x1 : w5.cell? ⟨bx, ox + j * 12 + 1, none⟩ = some (.int .i64 p.time) := hx 1 (by omega)
          have x2 : w5.cell? ⟨bx, ox + j * 12 + 2, none⟩ = some (.int .i64 p.txn) := hx 2 (by omega)
          have x3 : w5.cell? ⟨bx, ox + j * 12 + 3, none⟩ = some (.int .i64 p.op) := hx 3 (by omega)
          have x4 : w5.cell? ⟨bx, ox + j * 12 + 4, none⟩ = some (.int .i64 p.wit) := hx 4 (by omega)
          have x5 : w5.cell? ⟨bx, ox + j * 12 + 5, none⟩ = some (.string p.key) := hx 5 (by omega)
          have x6 : w5.cell? ⟨bx, ox + j * 12 + 6, none⟩ = some (.bool p.want) := hx 6 (by omega)
          have x7 : w5.cell? ⟨bx, ox + j * 12 + 7, none⟩ = some (.string p.exp) := hx 7 (by omega)
          have x8 : w5.cell? ⟨bx, ox + j * 12 + 8, none⟩ = some (.bool p.got) := hx 8 (by omega)
          have x9 : w5.cell? ⟨bx, ox + j * 12 + 9, none⟩ = some (.string p.obs) := hx 9 (by omega)
          have x10 : w5.cell? ⟨bx, ox + j * 12 + 10, none⟩ = some (.int .i64 p.frm) := hx 10 (by omega)
          have x11 : w5.cell? ⟨bx, ox + j * 12 + 11, none⟩ = some (.int .i64 p.to) := hx 11 (by omega)
          clear hx
          have hal := (Below.refl _ w5).alloc (Nat.le_refl _) (.cells #[.int .i64 p.kind, .int .i64 p.time, .int .i64 p.txn, .int .i64 p.op, .int .i64 p.wit, .string p.key, .bool p.want, .string p.exp, .bool p.got, .string p.obs, .int .i64 p.frm, .int .i64 p.to] 30)
          obtain ⟨v', w8, hrun, hown, hgr, hdis⟩ := app_viol (w5.alloc (.cells #[.int .i64 p.kind, .int .i64 p.time, .int .i64 p.txn, .int .i64 p.op, .int .i64 p.wit, .string p.key, .bool p.want, .string p.exp, .bool p.got, .string p.obs, .int .i64 p.frm, .int .i64 p.to] 30)) 28 u5 O p (ownV_below hO5.out hal) w5.heap.size (heap_alloc_new w5 _) (by have := hOl.out; have := hlen.out; omega)
          have hbn : Below w2.heap.size w2 w8 := (hB5.out.trans (hal.mono hB5.out.size)).trans ((Upd.of_grown hgr).below (Nat.le_trans hB5.out.size hal.size) hN.out)
          have hnn : ∀ q, v'.ownBlock = some q → w2.heap.size ≤ q := by
            intro q hq
            rcases hdis with h1 | ⟨h1, _⟩
            · exact hN.out q (h1 ▸ hq)
            · rw [h1] at hq
              cases hq
              exact Nat.le_trans hB5.out.size hal.size
          have Q1 := hid hown
          have Q2 := hid hnn
          have Q3 := hid hbn
          have Q4 : Hid ((O ++ [p]).length = (i) + (j + 1)) := hid (by have := hOl.out; rw [List.length_append]; simp only [List.length_cons, List.length_nil]; omega)
          have Q5 : Hid ((O ++ [p]) ++ mergeV (A.drop (i)) (Bb.drop (j + 1)) = mergeV A Bb) := hid (by rw [List.append_assoc, List.singleton_append, ← HEq.out]; exact hE.out)
          have hi9 : (i : Int) + 1 ≤ 9223372036854775807 := by have := hlen.out; omega
          have hj9 : (j : Int) + 1 ≤ 9223372036854775807 := by have := hlen.out; omega
          clear hown hgr hdis hbn hnn hal hO5 RA5 RB5 hB5 hE hN hOl
          go_wp2_with (at_builtin; refine wpList_append_run _ rfl (.tmp 70) (.tmp 75) 28 28 rfl _ _ rfl rfl hrun ?_)
          go_roundg ((A.length - (i)) + (Bb.length - (j + 1)))
          case measure => omega
          case rel => exact ⟨i, j + 1, O ++ [p], by omega, by omega, rfl, by go_num, by go_num, Q1, Q4, Q5, Q2, Q3⟩
        · have e1 : decide ((i : Int) < (A.length : Int)) = false := decide_eq_false (by omega)
          have e2 : decide (i < A.length) = false := decide_eq_false c1
          have e3 : decide ((j : Int) < (Bb.length : Int)) = false := decide_eq_false (by omega)
          have e4 : decide (j < Bb.length) = false := decide_eq_false c2
          go_wp2_with fail
          go_ret
          refine ⟨_, rfl, ?_, fun q hq => Nat.le_trans hsz.out (hN.out q hq), HB2.out.trans (hBel.out.mono hsz.out)⟩
          have h1 := hE.out
          rw [List.drop_of_length_le (by omega), List.drop_of_length_le (by omega)] at h1
          have h2 : O = sortV l := by rw [HAB.out, ← h1]; simp [mergeV]
          rw [← h2]
          exact hO.out
end Go.Proofs.Ytgimpkbknaopcaa
