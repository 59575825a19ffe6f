/- The laws' anchor: twenty bytes are written and read. No statement is proved here. -/
import Derived.Test.YtkhejipcclpknaaUE
set_option linter.unusedVariables false
set_option linter.unusedSimpArgs false
namespace Go.Proofs.Ytkhejipcclpknaa
section
open Go.RowKit


def CreateOn (w : World) (s : Nat) (d : Dl) (os : Option Nat) (n : Nat) (F : Int → Bool) (D : Dv) (e : Ending) (w' : World) : Prop := ∃ p, e = .returned (.pointer (some ⟨p, 0, none⟩)) ∧ WOn w' p s d none none os n F ⟨D.unit, [], [], 0, 0, false⟩ D [] [] ∧ w.heap.size ≤ p ∧ Below w.heap.size w w'
theorem create_on {w : World} {d : Dl} {D : Dv} {s n : Nat} {os : Option Nat} {F : Int → Bool} (h : DvM w d D) (hsp : SpF w s os n F) (hds : ∀ k, d.S k → ¬ sS s os k) (hnf : NoF D) (hs : D.scr = n) (h0 : 0 ≤ D.cw) (h1 : D.cw ≤ 1000000000) :
    Calls Try.prog 13 #[.pointer (some ⟨d.g, 0, none⟩), .pointer (some ⟨s, 0, none⟩)] w (CreateOn w s d os n F D) := by
  refine (create_any h s).mono ?_
  rintro e w' ⟨p, rfl, hw, hp, hb⟩
  refine ⟨p, rfl, ⟨⟨hw, h.below hb, hsp.below hb, ⟨fun k hk hd => ?_, fun k hk hss => ?_, hds⟩⟩, wg_new hnf rfl (by have := h.u0; omega) h.ml hs, rfl, rfl, h0, h1⟩, hp, hb⟩
  · have := h.lt k hd
    rcases hk with hk | hk | hk
    · omega
    · cases hk
    · cases hk
  · have h1 : k < w.heap.size := by
      rcases hss with e | e
      · rw [e]; exact hsp.lt.1
      · exact hsp.lt.2 k e
    rcases hk with hk | hk | hk
    · omega
    · cases hk
    · cases hk
theorem beside_new {w : World} {d : Dl} {D : Dv} {s : Nat} {os : Option Nat} (h : DvM w d D) (hs : w.heap.size ≤ s) (ho : ∀ k, os = some k → w.heap.size ≤ k) : ∀ k, d.S k → ¬ sS s os k := fun k hk hh => by
  have := h.lt k hk
  rcases hh with e | e
  · omega
  · have := ho k e
    omega
def tenB : List Int := List.replicate 19 0 ++ [7]
theorem cells_tenB : ((madeCells #[.int .u8 0] 20).setIfInBounds 19 (.int .u8 7)).toList = cellsB tenB := by
  rw [Array.toList_setIfInBounds, toList_madeCells_one]
  rfl
theorem WOn.below {w w' : World} {p s : Nat} {d : Dl} {o o' os : Option Nat} {n : Nat} {F : Int → Bool} {W : Wt} {D : Dv} {acc : List Int} {full : List Nat} (h : WOn w p s d o o' os n F W D acc full) (hb : Below w.heap.size w w') : WOn w' p s d o o' os n F W D acc full := ⟨h.mem.below hb, h.good, h.fa, h.cl, h.c0, h.c1⟩
theorem ROn.below {w w' : World} {p : Nat} {d : Dl} {oc o : Option Nat} {R : Rd} {D : Dv} {c : List Int} (h : ROn w p d oc o R D c) (hb : Below w.heap.size w w') : ROn w' p d oc o R D c := ⟨h.mem.below hb, h.good, h.fa, h.hh⟩
/-- Bytes that lie beside a step stay. -/
theorem BytesIn.out {S : Nat → Prop} {w w' : World} {b x : Nat} {l : List Int} (h : BytesIn w (some ⟨b, x, none⟩) l) (u : Upd S w w') (hn : ¬ S b) : BytesIn w' (some ⟨b, x, none⟩) l := fun hne => by
  obtain ⟨b', x', e, hb, hby⟩ := h hne
  cases e
  exact ⟨b, x, rfl, Nat.lt_of_lt_of_le hb u.size, hby.upd u hb hn⟩
theorem bytes_own {w : World} {B : Nat} {a : Option Addr} {n c : Nat} {l : List Int} (h : w.ownsRow B 5 1 (.slice a n c) l.length (cellsB l)) : BytesIn w a l := fun hne => by
  have hp := List.length_pos_iff.2 hne
  rcases h.2 with ⟨_, h0⟩ | ⟨b, cap, cur, hh, _, hg, _⟩
  · omega
  · cases hh
    refine ⟨b, 0, rfl, blk_lt hg, fun i hi => ?_⟩
    have := h.cells (g := b) rfl i _ (cellsB_get l i hi)
    rw [Addr.add_lit] at this
    exact this
theorem bytes_of {w : World} {b : Nat} {cur : Array Value} {l : List Int} {ty : TypeId} (h : w.heap[b]? = some (.cells cur ty (0, 0))) (hc : cur.toList = cellsB l) : BytesIn w (some ⟨b, 0, none⟩) l := fun _ =>
  ⟨b, 0, rfl, blk_lt h, fun i hi => by rw [blk_cell h, ← Array.getElem?_toList, hc, Nat.zero_add]; exact cellsB_get l i hi⟩
set_option maxHeartbeats 4000000 in
set_option maxRecDepth 100000 in
theorem anchor_any (w : World) : Calls Try.prog 10 #[] w fun e w' => e = .returned (.bool true) ∧ Below w.heap.size w w' := by
  obtain ⟨ti, hi, hz0, hz1, hz2⟩ := info_parts infoB
  have hmk : ∀ u : World, (Instr.makeSlice 22 (.int .i64 20) (.int .i64 20)).run Try.prog u = .ok (.slice (some ⟨u.heap.size, 0, none⟩) 20 20) (u.alloc (.cells (madeCells #[.int .u8 0] 20) 5)) := fun u => by
    have h := run_make (P := Try.prog) u 22 5 ti _ Try.underlying22 hi hz0 .i64 .i64 20 20 (by omega) (by omega) (by rw [hz2]; omega) (by omega)
    rw [hz1] at h
    simpa [Value.cells] using h
  have HN := hid (new_plain (w := w) (a := none) (l := []) 16 3 (by omega) (by omega) (by omega) (by simp) (fun h => absurd rfl h) 0)
  clear hi hz0 hz1 hz2
  go_enter Try.func10, Try.ntmps10
  go_upto_region 2 with (go_at_call 11; refine HN.out.mono ?_; rintro e w1 ⟨d, rfl, hd, hb1, hn1⟩)
  have HD := hid hd
  have HB1 := hid hb1
  have HN1 := hid hn1
  have HS := hid (space_any 3 w1 (by omega))
  clear hd hb1 hn1 HN
  go_upto_region 5 with (go_at_call 12; refine HS.out.mono ?_; rintro e w2 ⟨s, os, rfl, hsp, hps, hos, hb2⟩)
  have HD2 := hid (HD.out.below hb2)
  have HAP := hid (beside_new HD.out hps hos)
  have HC := hid (create_on HD2.out hsp HAP.out ⟨rfl, rfl⟩ rfl (Int.le_refl _) (by show (0 : Int) ≤ _; omega))
  have HB2 := hid (HB1.out.trans (hb2.mono HB1.out.size))
  have HSN := hid (show ∀ k, sS s os k → w.heap.size ≤ k from fun k hk => Nat.le_trans HB1.out.size (by
    rcases hk with e | e
    · rw [e]; exact hps
    · exact hos k e))
  clear hsp hps hos hb2
  go_upto_region 9 with (go_at_call 13; refine HC.out.mono ?_; rintro e w3 ⟨p, rfl, hw3, hp3, hb3⟩)
  clear hmk
  have HB3 := hid hb3
  have HW3 := hid hw3
  have HDN : Hid (∀ k, allS p none none d s os k → w.heap.size ≤ k) := hid (fun k hk => by
    rcases hk with (hk | hk | hk) | hk | hk
    · rw [hk]; exact Nat.le_trans HB2.out.size hp3
    · cases hk
    · cases hk
    · exact HN1.out k hk
    · exact HSN.out k hk)
  clear hw3 hp3 hb3 HC HS
  have hal := (Below.refl _ w3).alloc (Nat.le_refl _) (.cells (madeCells #[.int .u8 0] 20) 5)
  have X4 := heap_alloc_new w3 (.cells (madeCells #[.int .u8 0] 20) 5)
  obtain ⟨w4, hw4⟩ : ∃ w4, w3.alloc (.cells (madeCells #[.int .u8 0] 20) 5) = w4 := ⟨_, rfl⟩
  obtain ⟨b, hbe⟩ : ∃ b, b = w3.heap.size := ⟨_, rfl⟩
  rw [hw4] at hal X4
  rw [← hbe] at X4
  rw [hw4, ← hbe]
  have c19 : w4.cell? ⟨b, 19, none⟩ = some (.int .u8 0) := (blk_cell X4 19).trans (by rw [← Array.getElem?_toList, toList_madeCells_one]; rfl)
  have f19 := blk_free X4 19
  have X5 := heap_setCell_same w4 b 19 _ _ (.int .u8 7) X4
  have HB5 : Hid (Below w3.heap.size w3 (w4.setCell ⟨b, 19, none⟩ (.int .u8 7))) := hid (hal.setCell (p := ⟨b, 19, none⟩) (by rw [hbe]; exact Nat.le_refl _) _)
  have HBE := hid hbe
  have HX5 := hid X5
  clear hal X4 X5 hw4 hbe
  go_upto_region 10 with fail
  clear c19 f19
  obtain ⟨w5, hw5⟩ : ∃ w5, w4.setCell ⟨b, 19, none⟩ (.int .u8 7) = w5 := ⟨_, rfl⟩
  rw [hw5] at HB5 HX5
  rw [hw5]
  clear hw5
  have HW5 := hid (HW3.out.below HB5.out)
  have HY5 : Hid (BytesIn w5 (some ⟨b, 0, none⟩) tenB) := hid (bytes_of HX5.out cells_tenB)
  have HNB : Hid (¬ allS p none none d s os b) := hid (fun hh => by
    have := HW3.out.mem.lt b hh
    have := HBE.out
    omega)
  have HWR := hid (write_on HW5.out tenB (by decide) (by decide) (by decide) (some ⟨b, 0, none⟩) 20 (src_of HY5.out (by decide) (fun b' x e => by cases e; exact HNB.out)))
  go_upto_region 12 with (go_at_call 14; refine HWR.out.mono ?_; rintro e w6 ⟨rfl, o1, o1', os1, F1, W1, D1, f1, hw6, hst6, hs6, hc6, hn6⟩)
  have HW6 := hid hw6
  have ST6 := hid hst6
  have S6 := hid hs6
  clear hw6 hst6 hs6 hc6 hn6 HWR
  have HCL := hid (close_on HW6.out (by decide))
  go_upto_region 13 with (go_at_call 16; refine HCL.out.mono ?_; rintro e w7 ⟨v, o2, o2', os2, W2, D2, rfl, hv, hvn, hw7, hst7, hr7, hz7, hnf7, hml7, hs7, hfg7, hcw7⟩; have HV := hid hv; have hbl : W1.blocks.length = 2 := (by rw [hfg7.ln, hs7.un, S6.out.un]; decide); rw [hbl] at hv; obtain ⟨av, cv, rfl⟩ := own_slc hv)
  have HW7 := hid hw7
  have ST7 := hid hst7
  have HFG := hid hfg7
  have HNF := hid hnf7
  have S7 := hid hs7
  have HBL := hid hbl
  clear hv hvn hw7 hst7 hr7 hz7 hnf7 hml7 hs7 hfg7 hcw7 HCL hbl
  have hal := (Below.refl _ w7).alloc (Nat.le_refl _) (.cells #[.slice av 2 cv, .int .i64 20] 39)
  have X8 := heap_alloc_new w7 (.cells #[.slice av 2 cv, .int .i64 20] 39)
  obtain ⟨w8, hw8⟩ : ∃ w8, w7.alloc (.cells #[.slice av 2 cv, .int .i64 20] 39) = w8 := ⟨_, rfl⟩
  obtain ⟨t7, ht7⟩ : ∃ t7, t7 = w7.heap.size := ⟨_, rfl⟩
  rw [hw8] at hal X8
  rw [← ht7] at X8
  have e20 : (tenB.length : Int) = 20 := rfl
  simp only [e20]
  rw [hw8, ← ht7]
  have c0 : w8.cell? ⟨t7, 0, none⟩ = some (.slice av 2 cv) := (blk_cell X8 0).trans rfl
  have c1 : w8.cell? ⟨t7, 1, none⟩ = some (.int .i64 20) := (blk_cell X8 1).trans rfl
  have HW8 := hid (HW7.out.below hal)
  have HV8 : Hid (w8.ownsRow 0 3 1 (.slice av 2 cv) W1.blocks.length (cellsN W1.blocks)) := hid (by
    have q := HV.out
    refine own_same q fun k hk => hal.block k ?_
    rcases q.2 with ⟨hh, _⟩ | ⟨b, cap, cur, hh, _, hg, _⟩
    · rw [hh] at hk; cases hk
    · rw [hh] at hk
      cases hk
      exact blk_lt hg)
  have HOP := hid (open_on HW8.out.dv HNF.out HV8.out HFG.out (by decide))
  have HAL := hid hal
  clear hal X8 hw8 ht7 e20
  go_upto_region 16 with (go_at_call 17; refine HOP.out.mono ?_; rintro e w9 ⟨q, oc, rfl, hr9, hq9, hoc9, hb9⟩)
  have HR9 := hid hr9
  have HB9 := hid hb9
  have HQ9 := hid (And.intro hq9 hoc9)
  clear hr9 hq9 hoc9 hb9 HOP
  have HRO := hid (read_on HR9.out (by
    unfold cOk
    rw [S7.out.ci, S7.out.cs, S6.out.ci, S6.out.cs]
    decide) 30 (by omega))
  have hcc : (([] ++ tenB : List Int).drop 0).take 30 = tenB := rfl
  go_upto_region 19 with (go_at_call 19; refine HRO.out.mono ?_; rintro e w10 ⟨v, o1, R1, D3, rfl, hv10, hvn10, hr10, hst10, _, _, _, _⟩; rw [hcc] at hv10; have HV10 := hid hv10; obtain ⟨av2, cv2, rfl⟩ := own_slc hv10)
  have ST10 := hid hst10
  clear hv10 hvn10 hr10 hst10 hcc HRO
  have n6 := ST6.out.out (b := b) (blk_lt HX5.out) HNB.out
  have n7 := ST7.out.out n6.2.2 n6.2.1
  have hy7 := (HY5.out.out ST6.out.up HNB.out).out ST7.out.up n6.2.1
  have hb79 : Below w7.heap.size w7 w9 := HAL.out.trans (HB9.out.mono HAL.out.size)
  have hy9 := hy7.below hb79
  have hnb9 : ¬ (rS q (some oc) none b ∨ d.S b) := fun hh => by
    have h1 := n7.2.2
    have h2 := HAL.out.size
    have h3 := HQ9.out
    rcases hh with (hh | hh | hh) | hh
    · omega
    · cases hh
      omega
    · cases hh
    · exact n7.2.1 (.inr (.inl hh))
  have hy10 := hy9.out ST10.out.up hnb9
  have HSM := hid (same_any hy10 (bytes_own HV10.out) (by decide) (by decide) 20 cv2)
  have HFIN : Hid (Below w.heap.size w w10) := hid (by
    have h3 : Below w.heap.size w w3 := HB2.out.trans (HB3.out.mono HB2.out.size)
    have h5 : Below w.heap.size w w5 := h3.trans (HB5.out.mono h3.size)
    have h7 := h5.trans ((ST6.out.trans ST7.out).up.below (B := w.heap.size) h5.size HDN.out)
    have h9 := h7.trans (hb79.mono h7.size)
    refine h9.trans (ST10.out.up.below (B := w.heap.size) h9.size fun k hk => ?_)
    have h8 := HAL.out.size
    have hq := HQ9.out
    have := h7.size
    rcases hk with (hk | hk | hk) | hk
    · omega
    · cases hk
      omega
    · cases hk
    · exact HN1.out k hk)
  clear hy10 hnb9 hy9 hb79 hy7 n7 n6
  go_wp2_with (go_at_call 15; refine HSM.out.mono ?_; rintro e w11 ⟨rfl, h11⟩; rw [h11]; clear h11 w11)
  go_ret
  exact ⟨by simp, HFIN.out⟩

end

section
open Go.RowKit


def AllNew (B p s : Nat) (d : Dl) (o o' os : Option Nat) : Prop := ∀ k, allS p o o' d s os k → B ≤ k
theorem AllNew.step {B : Nat} {w w' : World} {p s : Nat} {d : Dl} {o o' os o1 o1' os1 : Option Nat} (h : AllNew B p s d o o' os) (st : WhStep w w' p s d o o' os o1 o1' os1) (hB : B ≤ w.heap.size) : AllNew B p s d o1 o1' os1 := fun k hk => by
  by_cases hlt : k < w.heap.size
  · exact h k (allS_heir st.h1 st.h2 st.h3 k hlt hk)
  · omega
theorem AllNew.below {w0 w w' : World} {p s : Nat} {d : Dl} {o o' os o1 o1' os1 : Option Nat} (h : AllNew w0.heap.size p s d o o' os) (hb : Below w0.heap.size w0 w) (st : WhStep w w' p s d o o' os o1 o1' os1) : Below w0.heap.size w0 w' :=
  hb.trans (st.up.below (B := w0.heap.size) hb.size h)
theorem allNew_mk {B p s : Nat} {d : Dl} {os : Option Nat} (hp : B ≤ p) (hd : ∀ k, d.S k → B ≤ k) (hs : ∀ k, sS s os k → B ≤ k) : AllNew B p s d none none os := fun k hk => by
  rcases hk with (hk | hk | hk) | hk | hk
  · rw [hk]; exact hp
  · cases hk
  · cases hk
  · exact hd k hk
  · exact hs k hk
theorem cnt_all : ∀ (n m : Nat), m ≤ n → cntB (allFree n) m = (m : Int)
  | n, 0, _ => rfl
  | n, m + 1, h => by
    unfold cntB
    rw [cnt_all n m (by omega)]
    unfold allFree
    rw [decide_eq_true (show (0 : Int) ≤ (m : Int) by omega), decide_eq_true (show (m : Int) < (n : Int) by omega)]
    simp
theorem cellsB_rep (n : Nat) : (madeCells #[.int .u8 0] n).toList = cellsB (List.replicate n 0) := by
  rw [toList_madeCells_one]
  simp [cellsB]
/-- A file that lies free cannot be dropped. -/
theorem drop_free (n : Nat) : ∀ (L : List Nat) (F : Int → Bool), (∀ b ∈ L, b < n) → (∀ b ∈ L, F (b : Int) = true) → L ≠ [] → (dropAll n F L).1 = 44 := by
  have stick : ∀ (L : List Nat) (S : Int × (Int → Bool)), S.1 = 44 → (L.foldl (dropS n) S).1 = 44 := by
    intro L
    induction L with
    | nil => intro S h; exact h
    | cons b r ih =>
      intro S h
      refine ih (dropS n S b) ?_
      unfold dropS
      rw [if_neg (by rw [h]; decide)]
      exact h
  intro L F hn hF hne
  cases L with
  | nil => exact absurd rfl hne
  | cons b r =>
    show (r.foldl (dropS n) (dropS n (0, F) b)).1 = 44
    refine stick r _ ?_
    unfold dropS freeR
    have := hn b (by simp)
    rw [if_pos rfl, if_pos (by omega), if_pos (hF b (by simp))]

end
end Go.Proofs.Ytkhejipcclpknaa
