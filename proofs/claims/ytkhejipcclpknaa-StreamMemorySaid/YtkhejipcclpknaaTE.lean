/- The walk of Close. No statement is proved here. -/
import Derived.Test.YtkhejipcclpknaaTD
set_option linter.unusedVariables false
set_option linter.unusedSimpArgs false
namespace Go.Proofs.Ytkhejipcclpknaa
open Go.RowKit

/-- Bytes are taken, no order drawn. -/
structure BytesRun0 (w : World) (p g s : Nat) (o o' : Option Nat) (W : Wt) (ty : TypeId) (a : Addr) (k c : Nat) (l : List Int) (vb v' : Value) (w1 : World) (o1 : Option Nat) : Prop where
  c0 : w.cell? ⟨p, 3, none⟩ = some vb
  run : (Builtin.append_ #[22, 22] ty #[vb, .slice (some a) k c]).run Try.prog w = .ok v' w1
  fr : w1.frozen? ⟨p, 3, none⟩ = false
  c1 : w1.cell? ⟨p, 3, none⟩ = some vb
  vs : ∃ av cv, v' = .slice av (W.buf.length + k) cv
  wt : WtM (w1.setCell ⟨p, 3, none⟩ v') p g s o1 o' { W with buf := W.buf ++ l }
  hr : Heir w o o1
  up : Upd (wS p o o') w (w1.setCell ⟨p, 3, none⟩ v')
theorem bytes_run0 {w : World} {p g s : Nat} {o o' : Option Nat} {W : Wt} (h : WtM w p g s o o' W) (ty : TypeId) (q off k c : Nat) (l : List Int) (hk : l.length = k) (hb : BytesAt w q off l) (hl : W.buf.length + k ≤ 1000000) : ∃ vb v' w1 o1, BytesRun0 w p g s o o' W ty ⟨q, off, none⟩ k c l vb v' w1 o1 := by
  obtain ⟨ti, hi, hz0, hz1, hz2⟩ := info_parts infoB
  have hlt := h.lt
  obtain ⟨v, v0, e1, e2, h1, h2, h3⟩ := h.ex
  have hpl := blk_lt h1
  have hal := (Below.refl w.heap.size w)
  have h2' : w.ownsRow 0 5 1 v W.buf.length (cellsB W.buf) := h2
  obtain ⟨v', w1, k1, k2, k3, k4⟩ := run_append_own3 w 0 22 ty 5 ti (.int .u8 0) 1 1 Try.underlying22 hi hz0 hz1 hz2 rfl v _ _ h2' ⟨q, off, none⟩ k c (cellsB l) (by rw [cellsB_length, hk, Nat.mul_one]) (fun j u hj => by
    have hj' : j < l.length := by
      have := (List.getElem?_eq_some_iff.1 hj).1
      rwa [cellsB_length] at this
    rw [cellsB_get l j hj'] at hj
    rw [Addr.add_lit]
    exact (hb j hj').trans hj) (cellsB_one l) (by unfold maxLen; omega) (by omega) (Nat.zero_le _)
  have hu1 : Upd (wS p o o') w w1 := (Upd.of_new hal).trans (Upd.of_grown k3) fun i _ hi => .inr (.inl (by rw [← e1]; exact hi))
  have hne : o ≠ some p := h.ap.1
  have hp1 : w1.heap[p]? = some (.cells #[.pointer (some ⟨g, 0, none⟩), .pointer (some ⟨s, 0, none⟩), .int .i64 W.unit, v, v0, .int .i64 W.size, .int .i64 W.fault, .bool W.closed] 86 (0, 0)) :=
    ((Upd.of_grown k3).block p hpl (by rw [e1]; exact hne)).trans h1
  have hob : v'.ownBlock = v.ownBlock ∨ ∃ k, v'.ownBlock = some k ∧ w.heap.size ≤ k := by
    rcases k4 with k4 | ⟨k4, _⟩
    · exact .inl k4
    · exact .inr ⟨_, k4, Nat.le_refl _⟩
  have hv'p : v'.ownBlock ≠ some p := by
    rcases hob with e | ⟨k, e, hk⟩
    · rw [e, e1]
      exact hne
    · rw [e]
      intro hh
      cases hh
      omega
  refine ⟨v, v', w1, v'.ownBlock, (blk_cell h1 3).trans rfl, k1, blk_free hp1 3, (blk_cell hp1 3).trans rfl, own_slc k2, ⟨⟨v', v0, rfl, e2, heap_setCell_same w1 p 3 _ _ v' hp1, ?_, ?_⟩, hv'p, h.ap.2.1, ?_⟩, ?_, ?_⟩
  · have e3 : cellsB (W.buf ++ l) = cellsB W.buf ++ cellsB l := by simp [cellsB]
    show (w1.setCell ⟨p, 3, none⟩ v').ownsRow 0 5 1 v' (W.buf ++ l).length (cellsB (W.buf ++ l))
    rw [e3, List.length_append, hk]
    exact own_same k2 fun k hk => Below.heap_setCell w1 ⟨p, 3, none⟩ v' k fun e => hv'p (hk.trans (congrArg some e))
  · refine own_same h3 fun k hk => ?_
    have hko : o' = some k := by rw [← e2]; exact hk
    have hkp : k ≠ p := fun e => h.ap.2.1 (by rw [hko, e])
    have hkl := hlt k (.inr (.inr hko))
    rw [Below.heap_setCell w1 ⟨p, 3, none⟩ v' k hkp]
    exact (Upd.of_grown k3).block k hkl (by rw [e1]; exact fun e => h.ap.2.2 k e hko)
  · intro k hk hk'
    rcases hob with e | ⟨j, e, hj⟩
    · exact h.ap.2.2 k (by rw [← e1, ← e]; exact hk) hk'
    · rw [e] at hk
      cases hk
      have := hlt k (.inr (.inr hk'))
      omega
  · intro k hk
    rcases hob with e | ⟨j, e, hj⟩
    · exact .inl (by rw [← e1, ← e]; exact hk)
    · rw [e] at hk
      cases hk
      exact .inr hj
  · exact hu1.setCell (p := ⟨p, 3, none⟩) (fun _ => .inl rfl) v'
def wPad (W : Wt) (m : Nat) : Wt := { W with buf := W.buf ++ List.replicate m 0 }
/-- What Close answers and leaves. -/
def wClose (n : Nat) (W : Wt) (D : Dv) (F : Int → Bool) : Int × (List Nat × Int) × Wt × Dv × (Int → Bool) :=
  if W.buf = [] then (0, (W.blocks, W.size), { W with closed := true }, D, F) else
  if (wFlush n (wPad W (W.unit - W.buf.length)) D F).1 = 0 then (0, (W.blocks, W.size), { W with buf := [], closed := true }, (wFlush n (wPad W (W.unit - W.buf.length)) D F).2.2.1, (wFlush n (wPad W (W.unit - W.buf.length)) D F).2.2.2)
  else ((wFlush n (wPad W (W.unit - W.buf.length)) D F).1, ([], 0), (wFlush n (wPad W (W.unit - W.buf.length)) D F).2.1, (wFlush n (wPad W (W.unit - W.buf.length)) D F).2.2.1, (wFlush n (wPad W (W.unit - W.buf.length)) D F).2.2.2)
def ClosePost (w : World) (p s : Nat) (d : Dl) (o o' os : Option Nat) (n : Nat) (r : Int × (List Nat × Int) × Wt × Dv × (Int → Bool)) (e : Ending) (w' : World) : Prop :=
  ∃ v o1 o1' os1, e = .returned (.tuple #[.agg #[v, .int .i64 r.2.1.2], .int .i64 r.1]) ∧ w'.ownsRow 0 3 1 v r.2.1.1.length (cellsN r.2.1.1) ∧ (∀ k, v.ownBlock = some k → w.heap.size ≤ k ∧ ¬ allS p o1 o1' d s os1 k) ∧ Wh w' p s d o1 o1' os1 n r.2.2.2.2 r.2.2.1 r.2.2.2.1 ∧ WhStep w w' p s d o o' os o1 o1' os1
theorem Wh.beside {S : Nat → Prop} {w w' : World} {p s n : Nat} {d : Dl} {o o' os : Option Nat} {F : Int → Bool} {W : Wt} {D : Dv} (h : Wh w p s d o o' os n F W D) (u : Upd S w w') (hs : ∀ k, allS p o o' d s os k → ¬ S k) : Wh w' p s d o o' os n F W D :=
  ⟨h.wt.upd u fun k hk => hs k (.inl hk), h.dv.upd u fun k hk => hs k (.inr (.inl hk)), h.sp.upd u (hs s (.inr (.inr (.inl rfl)))) fun k hk => hs k (.inr (.inr (.inr hk))), h.ap⟩
/-- A step behind which a new block is written. -/
theorem late_step {w w0 w9 w11 : World} {p s t2 : Nat} {d : Dl} {o o' os o3 o3' os3 : Option Nat} (ht : w.heap.size ≤ t2) (hb : Below w.heap.size w w0) (st : WhStep w0 w9 p s d o o' os o3 o3' os3) (u : Upd (fun k => k = t2) w9 w11) : WhStep w w11 p s d o o' os o3 o3' os3 := by
  have q := (WhStep.below (p := p) (s := s) (d := d) (o := o) (o' := o') (os := os) hb).trans st
  exact ⟨q.h1, q.h2, q.h3, q.up.trans u fun i hi e => by omega⟩
theorem wt_close {w : World} {p g s : Nat} {o o' : Option Nat} {W : Wt} (h : WtM w p g s o o' W) : WtM (w.setCell ⟨p, 7, none⟩ (.bool true)) p g s o o' { W with closed := true } := by
  obtain ⟨v, v0, e1, e2, h1, h2, h3⟩ := h.ex
  refine ⟨⟨v, v0, e1, e2, heap_setCell_same w p 7 _ _ (.bool true) h1, own_same h2 fun k hk => ?_, own_same h3 fun k hk => ?_⟩, h.ap⟩
  · exact Below.heap_setCell w ⟨p, 7, none⟩ _ k fun e => h.ap.1 (by rw [← e1, hk]; exact congrArg some e)
  · exact Below.heap_setCell w ⟨p, 7, none⟩ _ k fun e => h.ap.2.1 (by rw [← e2, hk]; exact congrArg some e)
set_option maxHeartbeats 8000000 in
set_option maxRecDepth 100000 in
theorem close_any {w : World} {p s n : Nat} {d : Dl} {o o' os : Option Nat} {F : Int → Bool} {W : Wt} {D : Dv} (h : Wh w p s d o o' os n F W D) (hr : W.ready = 0) (hi : WInv W D.unit 0) :
    Calls Try.prog 16 #[.pointer (some ⟨p, 0, none⟩)] w (ClosePost w p s d o o' os n (wClose n W D F)) := by
  have hal := (Below.refl _ w).alloc (Nat.le_refl _) (.cells #[.slice none 0 0, .int .i64 0] 39)
  have X0 := heap_alloc_new w (.cells #[.slice none 0 0, .int .i64 0] 39)
  obtain ⟨w0, hw0⟩ : ∃ w0, w.alloc (.cells #[.slice none 0 0, .int .i64 0] 39) = w0 := ⟨_, rfl⟩
  obtain ⟨t2, ht2⟩ : ∃ t2, t2 = w.heap.size := ⟨_, rfl⟩
  have HT2 := hid ht2
  rw [hw0] at hal X0
  rw [← ht2] at X0
  have H0 := hid (h.below hal)
  have HRD := hid (ready_any H0.out.wt)
  rw [hr] at HRD
  have HX0 := hid X0
  have HW0 := hid hw0
  have HB0 := hid hal
  have HI := hid hi
  have HUN := hid h.dv.u1
  obtain ⟨U, hU⟩ : ∃ U, U = D.unit := ⟨_, rfl⟩
  rw [← hU] at HI HUN
  have HU := hid hU
  have HNA : Hid (¬ allS p o o' d s os t2) := hid (fun hh => by
    have : t2 < w.heap.size := by
      rcases hh with hh | hh | hh | hh
      · exact h.wt.lt _ hh
      · exact h.dv.lt _ hh
      · rw [hh]; exact h.sp.lt.1
      · exact h.sp.lt.2 _ hh
    omega)
  clear h hr hi hal X0 hw0 ht2 hU
  go_enter Try.func16, Try.ntmps16
  go_upto_region 1 with fail
  rw [HW0.out, ← HT2.out]
  go_upto_region 4 with (go_at_call 33; refine HRD.out.mono ?_; rintro e w1 ⟨rfl, h1⟩; rw [h1]; clear h1 w1)
  obtain ⟨B, hB⟩ : ∃ B, B = W.buf.length := ⟨_, rfl⟩
  have HB := hid hB
  obtain ⟨a3, c3, k3⟩ : ∃ a3 c3, w0.cell? ⟨p, 3, none⟩ = some (.slice a3 B c3) := by
    obtain ⟨v, v0, e1, e2, h1, h2, h3⟩ := H0.out.wt.ex
    obtain ⟨a3, c3, e⟩ := own_slc h2
    exact ⟨a3, c3, (blk_cell h1 3).trans (by rw [e, hB]; rfl)⟩
  clear hB
  go_upto_if 17 with fail
  go_cut [3, 17] (fun s3 s17 wx => s3 = .int .i64 0 ∧ ∃ (W1 : Wt) (D1 : Dv) (F1 : Int → Bool) (o1 o1' os1 : Option Nat), Hid (Wh wx p s d o1 o1' os1 n F1 W1 D1) ∧ Hid (WhStep w0 wx p s d o o' os o1 o1' os1) ∧ Hid (W1.blocks = W.blocks ∧ W1.size = W.size) ∧ Hid (wClose n W D F = (0, (W.blocks, W.size), { W1 with closed := true }, D1, F1)) ∧ Hid (wx.heap[t2]? = some (.cells #[.slice none 0 0, .int .i64 0] 39 (0, 0))))
  case first =>
    have k7 := HI.out.bu
    by_cases hb0 : B = 0
    · subst hb0
      have hbn : W.buf = [] := List.eq_nil_of_length_eq_zero HB.out.symm
      have HWC : Hid (wClose n W D F = (0, (W.blocks, W.size), { W with closed := true }, D, F)) := hid (by unfold wClose; rw [if_pos hbn])
      clear hbn k7
      go_wp2_with fail
      go_meet
      case rel => exact ⟨rfl, W, D, F, o, o', os, H0, hid (WhStep.refl _ _ _ _ _ _ _), hid ⟨rfl, rfl⟩, HWC, HX0⟩
    · have hb1 : (0 : Int) < (B : Int) := by omega
      have hbu : B < U := by rw [HB.out]; exact k7
      obtain ⟨R, hR⟩ : ∃ R, R = U - B := ⟨_, rfl⟩
      have HR := hid (And.intro hR (And.intro hbu hb0))
      clear hb0 hbu k7 hR
      simp only [show decide (0 < B) = true from decide_eq_true (by omega)]
      go_wp2_with fail
      go_loopg [] R (fun gh wr => ∃ (i : Nat) (o1 : Option Nat), R - i = gh ∧ i ≤ R ∧ Hid (Wh wr p s d o1 o' os n F (wPad W i) D) ∧ Hid (WhStep w0 wr p s d o o' os o1 o' os))
      case atStart => exact ⟨0, o, rfl, Nat.zero_le _, hid (by have := H0.out; unfold wPad; simpa using this), hid (WhStep.refl _ _ _ _ _ _ _)⟩
      case round =>
        clear k3
        obtain ⟨i, o1, rfl, hiR, H1, ST1⟩ := hrel
        obtain ⟨N, hN⟩ : ∃ N, N = B + i := ⟨_, rfl⟩
        have hpl : (wPad W i).buf.length = N := by unfold wPad; simp; rw [← HB.out, hN]
        have HPL := hid hpl
        have HN := hid hN
        clear hN
        obtain ⟨a4, c4, e3⟩ : ∃ a4 c4, wr.cell? ⟨p, 3, none⟩ = some (.slice a4 N c4) := by
          obtain ⟨v, v0, f1, f2, h1, h2, h3⟩ := H1.out.wt.ex
          obtain ⟨a3, c3, e⟩ := own_slc h2
          exact ⟨a3, c3, (blk_cell h1 3).trans (by rw [e, hpl]; rfl)⟩
        have e2 : wr.cell? ⟨p, 2, none⟩ = some (.int .i64 (U : Int)) := by
          obtain ⟨v, v0, f1, f2, h1, h2, h3⟩ := H1.out.wt.ex
          exact (blk_cell h1 2).trans (by rw [show (wPad W i).unit = U from HI.out.u]; rfl)
        go_upto_region 5 with fail
        go_still (by kernel_rfl)
        generalize hwd : ({ heap := wr.heap, tape := wr.tape, drawn := wr.drawn + 1, os := wr.os, output := wr.output } : World) = w5
        have hwd' : wr.drew = w5 := hwd
        have e3 : w5.cell? ⟨p, 3, none⟩ = some (.slice a4 N c4) := by rw [← hwd']; exact e3
        have hbd : Below wr.heap.size wr w5 := by rw [← hwd']; exact (Below.refl _ wr).drew
        have H5 := hid (H1.out.below hbd)
        have ST5 := hid (ST1.out.trans (WhStep.below hbd))
        clear hwd hwd' hbd e2 hpl
        by_cases hlt : i < R
        · have hNU : (N : Int) < (U : Int) := by have := HN.out; have := HR.out.1; have := HR.out.2.1; omega
          have HLT := hid hlt
          clear hlt
          have hal := (Below.refl _ w5).alloc (Nat.le_refl _) (.cells #[.int .u8 0] 5)
          have X6 := heap_alloc_new w5 (.cells #[.int .u8 0] 5)
          have k3 := (hal.cell (p := ⟨p, 3, none⟩) (H5.out.wt.lt p (.inl rfl))).trans e3
          have H6 := hid (H5.out.below hal)
          have ST6 := hid (ST5.out.trans (WhStep.below hal))
          have hby : BytesAt (w5.alloc (.cells #[.int .u8 0] 5)) w5.heap.size 0 [0] := fun j hj => by
            have hj0 : j = 0 := by simpa using hj
            subst hj0
            exact (blk_cell X6 0).trans rfl
          obtain ⟨vb, v', w7, o2, hbr⟩ := bytes_run0 H6.out.wt 22 w5.heap.size 0 1 1 [0] rfl hby (by rw [HPL.out]; have := HN.out; have := HR.out; have := HUN.out; omega)
          obtain ⟨av, cv, rfl⟩ := hbr.vs
          have hvb : vb = .slice a4 N c4 := Option.some.inj (hbr.c0.symm.trans k3)
          subst hvb
          have BR := hid hbr
          have hrun := hbr.run
          have d3 := hbr.fr
          have d4 := hbr.c1
          clear hbr hal X6 hby
          go_wp2_with (at_builtin; refine wpList_append_run _ rfl (.tmp 32) (.tmp 33) 22 22 rfl _ _ rfl rfl hrun ?_)
          have ST7 : Hid (WhStep (w5.alloc (.cells #[.int .u8 0] 5)) (w7.setCell ⟨p, 3, none⟩ (.slice av ((wPad W i).buf.length + 1) cv)) p s d o1 o' os o2 o' os) := hid ⟨BR.out.hr, Heir.refl _ _, Heir.refl _ _, BR.out.up.mono fun k _ h => .inl h⟩
          have H7 := hid (H6.out.next ST7.out BR.out.wt (H6.out.dv.upd BR.out.up fun k hk h => H6.out.ap.wd k h hk) (H6.out.sp.upd BR.out.up (fun h => H6.out.ap.ws s h (.inl rfl)) fun k hk h => H6.out.ap.ws k h (.inr hk)))
          go_roundg (R - (i + 1))
          case measure => have := HLT.out; omega
          case rel => exact ⟨i + 1, o2, rfl, HLT.out, hid (by have q := H7.out; unfold wPad at q ⊢; simp only [List.append_assoc, ← List.replicate_succ'] at q; exact q), hid (ST6.out.trans ST7.out)⟩
        · have hiR' : i = R := by omega
          subst hiR'
          have hNU : ¬ (N : Int) < (U : Int) := by have := HN.out; have := HR.out.1; omega
          have HNU : Hid (N = U) := hid (by have := HN.out; have := HR.out.1; have := HR.out.2.1; omega)
          clear hlt hiR e3
          have hne : W.blocks ≠ [] := HI.out.bb (fun h => HR.out.2.2 (by rw [HB.out, h]; rfl))
          have HFL := hid (flush_any H5.out.wt H5.out.dv H5.out.sp H5.out.ap (by rw [HPL.out, ← HU.out]; exact HNU.out) hne (by show W.blocks.length ≤ 1000000; have := HI.out.bl; omega))
          clear hne
          go_upto_region 8 with (go_at_call 36; refine HFL.out.mono ?_; rintro e w9 ⟨b, o3, o3', os3, hlast, rfl, hdv, hor, hh1, hh2, hh3, hup⟩)
          obtain ⟨r, hr⟩ : ∃ r, r = (D.write b (wPad W i).buf).1 := ⟨_, rfl⟩
          rw [← hr] at hor ⊢
          have HSTF : Hid (WhStep w5 w9 p s d o1 o' os o3 o3' os3) := hid ⟨hh1, hh2, hh3, hup⟩
          have HFF : Hid (wFlush n (wPad W (W.unit - W.buf.length)) D F = if r = 0 then (0, { wPad W i with buf := [] }, (D.write b (wPad W i).buf).2, F) else (r, (wPad W i).spoil r, (D.write b (wPad W i).buf).2, freeAll n F (wPad W i).blocks)) := hid (by
            rw [HI.out.u, ← HB.out, ← HR.out.1]
            unfold wFlush
            rw [hlast, hr])
          have HDV := hid hdv
          have HOR := hid hor
          clear hlast hdv hor hh1 hh2 hh3 hup hr
          have ST10 := hid (ST5.out.trans HSTF.out)
          have hbn : W.buf ≠ [] := fun h => HR.out.2.2 (by rw [HB.out, h]; rfl)
          have HT9 : Hid (w9.heap[t2]? = some (.cells #[.slice none 0 0, .int .i64 0] 39 (0, 0))) := hid ((ST10.out.up.block t2 (blk_lt HX0.out) HNA.out).trans HX0.out)
          by_cases hr0 : r = 0
          · subst hr0
            have HOK : Hid (WtM w9 p d.g s o3 o3' { wPad W i with buf := [] } ∧ SpF w9 s os3 n F) := hid (by
              rcases HOR.out with h | h
              · exact h.2
              · exact absurd rfl h.1)
            have H9 := hid (H5.out.next HSTF.out HOK.out.1 HDV.out HOK.out.2)
            have HE : Hid (wClose n W D F = (0, (W.blocks, W.size), { ({ wPad W i with buf := [] } : Wt) with closed := true }, (D.write b (wPad W i).buf).2, F)) := hid (by
              have q := HFF.out
              rw [if_pos rfl] at q
              unfold wClose
              rw [if_neg hbn, q, if_pos rfl]
              rfl)
            clear hbn
            go_wp2_with fail
            go_meet
            case rel => exact ⟨rfl, _, _, F, o3, o3', os3, H9, ST10, hid ⟨rfl, rfl⟩, HE, HT9⟩
          · have b2 : (r == 0) = false := beq_eq_false_iff_ne.mpr hr0
            have b3 : decide (r = 0) = false := decide_eq_false hr0
            have HOK : Hid (WtM w9 p d.g s o3 o3' ((wPad W i).spoil r) ∧ SpF w9 s os3 n (freeAll n F (wPad W i).blocks)) := hid (by
              rcases HOR.out with h | h
              · exact absurd h.1 hr0
              · exact h.2)
            have H9 := hid (H5.out.next HSTF.out HOK.out.1 HDV.out HOK.out.2)
            have HE : Hid (wClose n W D F = (r, ([], 0), (wPad W i).spoil r, (D.write b (wPad W i).buf).2, freeAll n F (wPad W i).blocks)) := hid (by
              have q := HFF.out
              rw [if_neg hr0] at q
              unfold wClose
              rw [if_neg hbn, q, if_neg (show ¬ r = 0 from hr0)])
            clear hbn
            have y0 : w9.cell? ⟨t2, 0, none⟩ = some (.slice none 0 0) := (blk_cell HT9.out 0).trans rfl
            have y1 : w9.cell? ⟨t2, 1, none⟩ = some (.int .i64 0) := (blk_cell HT9.out 1).trans rfl
            have z0 := blk_free HT9.out 0
            have z1 := blk_free HT9.out 1
            go_wp2_with fail
            clear y0 y1 z0 z1
            have i1 := heap_setCell_same w9 t2 0 _ _ (.slice none 0 0) HT9.out
            have i2 := heap_setCell_same _ t2 1 _ _ (.int .i64 0) i1
            have q0 : (w9.setCell ⟨t2, 0, none⟩ (.slice none 0 0)).cell? ⟨t2, 0, none⟩ = some (.slice none 0 0) := (blk_cell i1 0).trans rfl
            have q1 : ((w9.setCell ⟨t2, 0, none⟩ (.slice none 0 0)).setCell ⟨t2, 1, none⟩ (.int .i64 0)).cell? ⟨t2, 1, none⟩ = some (.int .i64 0) := (blk_cell i2 1).trans rfl
            refine bodyPost_ret (v := .tuple #[.agg #[.slice none 0 0, .int .i64 0], .int .i64 r]) (by simp [results, Try.results16, go_sem, q0, q1]) rfl ?_
            have U11 := hid (((Upd.refl (fun k => k = t2) w9).setCell (p := ⟨t2, 0, none⟩) (fun _ => rfl) (.slice none 0 0)).setCell (p := ⟨t2, 1, none⟩) (fun _ => rfl) (.int .i64 0))
            have hna : ¬ allS p o3 o3' d s os3 t2 := fun hh => HNA.out (allS_heir ST10.out.h1 ST10.out.h2 ST10.out.h3 t2 (blk_lt HX0.out) hh)
            have B11 := late_step (by rw [HT2.out]; exact Nat.le_refl _) HB0.out ST10.out U11.out
            exact ⟨.slice none 0 0, o3, o3', os3, by rw [HE.out], by rw [HE.out]; exact World.ownsRow_nil _ _ _ _, fun k hk => (by cases hk), by rw [HE.out]; exact H9.out.beside U11.out (fun k hk e => hna (by rw [← e]; exact hk)), B11⟩
  case rest =>
    obtain ⟨rfl, W1, D1, F1, o1, o1', os1, H1, ST1, HWE, HWC, HT1⟩ := hcut
    clear k3
    have f7 : wc.frozen? ⟨p, 7, none⟩ = false := by
      obtain ⟨v, v0, e1, e2, h1, h2, h3⟩ := H1.out.wt.ex
      exact blk_free h1 7
    have k7 : wc.cell? ⟨p, 7, none⟩ = some (.bool W1.closed) := by
      obtain ⟨v, v0, e1, e2, h1, h2, h3⟩ := H1.out.wt.ex
      exact (blk_cell h1 7).trans rfl
    go_upto_region 11 with fail
    clear f7 k7
    have UP4 := hid ((Upd.refl (fun k => k = p) wc).setCell (p := ⟨p, 7, none⟩) (fun _ => rfl) (.bool true))
    have hpt2 : p ≠ t2 := fun e => HNA.out (.inl (.inl e.symm))
    have ST4 : Hid (WhStep wc (wc.setCell ⟨p, 7, none⟩ (.bool true)) p s d o1 o1' os1 o1 o1' os1) := hid ⟨Heir.refl _ _, Heir.refl _ _, Heir.refl _ _, UP4.out.mono fun k _ h => .inl (.inl h)⟩
    have H4 : Hid (Wh (wc.setCell ⟨p, 7, none⟩ (.bool true)) p s d o1 o1' os1 n F1 { W1 with closed := true } D1) := hid (H1.out.next ST4.out (wt_close H1.out.wt) (H1.out.dv.upd UP4.out fun k hk h => H1.out.ap.wd k (.inl h) hk) (H1.out.sp.upd UP4.out (fun h => H1.out.ap.ws s (.inl h) (.inl rfl)) fun k hk h => H1.out.ap.ws k (.inl h) (.inr hk)))
    have HT4 : Hid ((wc.setCell ⟨p, 7, none⟩ (.bool true)).heap[t2]? = some (.cells #[.slice none 0 0, .int .i64 0] 39 (0, 0))) := hid ((Below.heap_setCell wc ⟨p, 7, none⟩ _ t2 (fun e => hpt2 e.symm)).trans HT1.out)
    have ST5 := hid (ST1.out.trans ST4.out)
    obtain ⟨w4, hw4⟩ : ∃ w4, wc.setCell ⟨p, 7, none⟩ (.bool true) = w4 := ⟨_, rfl⟩
    rw [hw4] at H4 HT4 ST5 ⊢
    clear hw4 UP4 ST4 H1 HT1 ST1
    obtain ⟨a, cap, c4, hown4⟩ : ∃ a cap, w4.cell? ⟨p, 4, none⟩ = some (.slice a W.blocks.length cap) ∧ w4.ownsRow 0 3 1 (.slice a W.blocks.length cap) W.blocks.length (cellsN W.blocks) ∧ (Value.slice a W.blocks.length cap).ownBlock = o1' := by
      obtain ⟨v, v0, e1, e2, h1, h2, h3⟩ := H4.out.wt.ex
      obtain ⟨a, cap, e⟩ := own_slc h3
      have hbl : ({ W1 with closed := true } : Wt).blocks = W.blocks := HWE.out.1
      rw [hbl] at h3 e
      subst e
      exact ⟨a, cap, (blk_cell h1 4).trans rfl, h3, e2⟩
    have c5 : w4.cell? ⟨p, 5, none⟩ = some (.int .i64 W.size) := by
      obtain ⟨v, v0, e1, e2, h1, h2, h3⟩ := H4.out.wt.ex
      exact (blk_cell h1 5).trans (by rw [show ({ W1 with closed := true } : Wt).size = W.size from HWE.out.2]; rfl)
    have hal4 := ((Below.refl _ w4).alloc (Nat.le_refl _) (.cells #[] 3)).drew
    obtain ⟨g, ic, w6, hrun, hown, hgr, hgg⟩ := app_ints (w := (w4.alloc (.cells #[] 3)).drew) (q := w4.heap.size) (heap_alloc_new w4 _) 37 (own_same hown4.1 fun k hk => hal4.block k (H4.out.wt.lt k (.inr (.inr (by rw [← hown4.2]; exact hk))))) (by have := HI.out.bl; omega)
    have B46 := hid (hal4.grown hgr hal4.size (fun k e => by cases e; exact Nat.le_refl _))
    have HOW := hid hown
    have HGG : Hid (w4.heap.size ≤ g) := hid (by
      rcases hgg with e | e
      · rw [e]; exact Nat.le_refl _
      · rw [e]; exact hal4.size)
    have tl := H4.out.wt.lt p (.inl rfl)
    have y4 := (B46.out.cell (p := ⟨p, 4, none⟩) tl).trans c4
    have y5 := (B46.out.cell (p := ⟨p, 5, none⟩) tl).trans c5
    have HT6 := hid ((B46.out.block t2 (blk_lt HT4.out)).trans HT4.out)
    have i1 := heap_setCell_same w6 t2 0 _ _ (.slice (some ⟨g, 0, none⟩) W.blocks.length ic) HT6.out
    have i2 := heap_setCell_same _ t2 1 _ _ (.int .i64 W.size) i1
    have HT7 := hid i2
    have t0 : w6.cell? ⟨t2, 0, none⟩ = some (.slice none 0 0) := (blk_cell HT6.out 0).trans rfl
    have t1 : w6.cell? ⟨t2, 1, none⟩ = some (.int .i64 0) := (blk_cell HT6.out 1).trans rfl
    have u0 := blk_free HT6.out 0
    have u1 := blk_free HT6.out 1
    have U7 := ((Upd.refl (fun k => k = t2) w6).setCell (p := ⟨t2, 0, none⟩) (fun _ => rfl) (.slice (some ⟨g, 0, none⟩) W.blocks.length ic)).setCell (p := ⟨t2, 1, none⟩) (fun _ => rfl) (.int .i64 W.size)
    have z4 := (U7.cell (p := ⟨p, 4, none⟩) (Nat.lt_of_lt_of_le tl B46.out.size) hpt2).trans y4
    have z5 := (U7.cell (p := ⟨p, 5, none⟩) (Nat.lt_of_lt_of_le tl B46.out.size) hpt2).trans y5
    have HU7 := hid U7
    have HP2 := hid hpt2
    clear hal4 hown hgr hgg hown4 tl i1 i2 U7 hpt2
    go_region_held3 (fun W' : World => W'.cell? ⟨p, 4, none⟩ = some (.slice a W.blocks.length cap) ∧ W'.cell? ⟨p, 5, none⟩ = some (.int .i64 W.size)) (go_keep) (refine step_append_run rfl (.tmp 46) (.tmp 50) 37 37 rfl _ _ rfl rfl hrun ?_)
    all_goals
      clear y4 y5 z4 z5 t0 t1 u0 u1 c4 c5 hrun
      go_wp2_with fail
      have i1 := heap_setCell_same w6 t2 0 _ _ (.slice (some ⟨g, 0, none⟩) W.blocks.length ic) HT6.out
      have q0 : (w6.setCell ⟨t2, 0, none⟩ (.slice (some ⟨g, 0, none⟩) W.blocks.length ic)).cell? ⟨t2, 0, none⟩ = some (.slice (some ⟨g, 0, none⟩) W.blocks.length ic) := (blk_cell i1 0).trans rfl
      have q1 : ((w6.setCell ⟨t2, 0, none⟩ (.slice (some ⟨g, 0, none⟩) W.blocks.length ic)).setCell ⟨t2, 1, none⟩ (.int .i64 W.size)).cell? ⟨t2, 1, none⟩ = some (.int .i64 W.size) := (blk_cell HT7.out 1).trans rfl
      refine bodyPost_ret (v := .tuple #[.agg #[.slice (some ⟨g, 0, none⟩) W.blocks.length ic, .int .i64 W.size], .int .i64 0]) (by simp [results, Try.results16, go_sem, q0, q1]) rfl ?_
      have hna : ¬ allS p o1 o1' d s os1 t2 := fun hh => HNA.out (allS_heir ST5.out.h1 ST5.out.h2 ST5.out.h3 t2 (blk_lt HX0.out) hh)
      have ST6 := hid (ST5.out.trans (WhStep.below B46.out))
      have hgl : g < w6.heap.size := (HOW.out.lt g rfl).2
      have hgt : g ≠ t2 := fun e => by have := blk_lt HT4.out; have := HGG.out; omega
      have H6 := H4.out.below B46.out
      have h04 : w.heap.size ≤ w4.heap.size := Nat.le_trans HB0.out.size ST5.out.up.size
      refine ⟨.slice (some ⟨g, 0, none⟩) W.blocks.length ic, o1, o1', os1, by rw [HWC.out], ?_, ?_, ?_, late_step (by rw [HT2.out]; exact Nat.le_refl _) HB0.out ST6.out HU7.out⟩
      · rw [HWC.out]
        exact own_same HOW.out fun k hk => HU7.out.block k (by cases hk; exact hgl) fun e => by cases hk; exact hgt e
      · intro k hk
        cases hk
        refine ⟨Nat.le_trans h04 HGG.out, fun hh => ?_⟩
        have hgk := HGG.out
        rcases hh with hh | hh | hh | hh
        · exact absurd (H4.out.wt.lt _ hh) (Nat.not_lt.2 hgk)
        · exact absurd (H4.out.dv.lt _ hh) (Nat.not_lt.2 hgk)
        · have hh : g = s := hh
          exact absurd (show g < w4.heap.size by rw [hh]; exact H4.out.sp.lt.1) (Nat.not_lt.2 hgk)
        · exact absurd (H4.out.sp.lt.2 _ hh) (Nat.not_lt.2 hgk)
      · rw [HWC.out]
        exact H6.beside HU7.out fun k hk e => hna (by rw [← e]; exact hk)
end Go.Proofs.Ytkhejipcclpknaa
