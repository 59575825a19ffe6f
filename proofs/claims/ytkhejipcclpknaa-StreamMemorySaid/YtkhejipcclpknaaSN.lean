/- A writer's flush: the block that is held is written. No statement is proved here. -/
import Derived.Test.YtkhejipcclpknaaSM
set_option linter.unusedVariables false
set_option linter.unusedSimpArgs false
namespace Go.Proofs.Ytkhejipcclpknaa
open Go.RowKit

/-- The things of a writer lie apart. -/
structure Apart3 (p : Nat) (o o' : Option Nat) (d : Dl) (s : Nat) (os : Option Nat) : Prop where
  wd : ∀ k, wS p o o' k → ¬ d.S k
  ws : ∀ k, wS p o o' k → ¬ sS s os k
  ds : ∀ k, d.S k → ¬ sS s os k
def allS (p : Nat) (o o' : Option Nat) (d : Dl) (s : Nat) (os : Option Nat) (k : Nat) : Prop := wS p o o' k ∨ d.S k ∨ sS s os k
/-- What is owned behind a step was owned before it or is new. -/
def Heir (w : World) (o o1 : Option Nat) : Prop := ∀ k, o1 = some k → o = some k ∨ w.heap.size ≤ k
def FlushPost (w : World) (p : Nat) (d : Dl) (s : Nat) (o o' os : Option Nat) (n : Nat) (F : Int → Bool) (W : Wt) (D : Dv) (e : Ending) (w' : World) : Prop :=
  ∃ (b : Nat) (o1 o1' os1 : Option Nat), W.blocks.getLast? = some b ∧ e = .returned (.int .i64 (D.write b W.buf).1) ∧ DvM w' d (D.write b W.buf).2 ∧
    (((D.write b W.buf).1 = 0 ∧ WtM w' p d.g s o1 o1' { W with buf := [] } ∧ SpF w' s os1 n F) ∨ ((D.write b W.buf).1 ≠ 0 ∧ WtM w' p d.g s o1 o1' (W.spoil (D.write b W.buf).1) ∧ SpF w' s os1 n (freeAll n F W.blocks))) ∧
    Heir w o o1 ∧ Heir w o' o1' ∧ Heir w os os1 ∧ Upd (allS p o o' d s os) w w'
set_option maxHeartbeats 4000000 in
set_option maxRecDepth 100000 in
theorem flush_any {w : World} {p s : Nat} {d : Dl} {o o' os : Option Nat} {n : Nat} {F : Int → Bool} {W : Wt} {D : Dv} (h : WtM w p d.g s o o' W) (hdv : DvM w d D) (hs : SpF w s os n F) (ha : Apart3 p o o' d s os)
    (hbuf : W.buf.length = D.unit) (hne : W.blocks ≠ []) (hlen : W.blocks.length ≤ 1000000) :
    Calls Try.prog 36 #[.pointer (some ⟨p, 0, none⟩)] w (FlushPost w p d s o o' os n F W D) := by
  have u0 := hdv.u0
  have H0 := hid h
  obtain ⟨v, v', rfl, rfl, h1, h2, h3⟩ := h.ex
  rcases h2.2 with ⟨_, h0⟩ | ⟨bb, bc, bcur, rfl, _, hbg, hbl, hbm, hbs, hbt⟩
  · omega
  rcases h3.2 with ⟨_, h0⟩ | ⟨kb, kc, kcur, rfl, _, hkg, hkl, hkm, hks, hkt⟩
  · exact absurd (List.eq_nil_of_length_eq_zero h0) hne
  obtain ⟨m, hm⟩ : ∃ m, W.blocks.length = m + 1 := ⟨W.blocks.length - 1, by have := List.length_pos_iff.2 hne; omega⟩
  have hml : m < W.blocks.length := by omega
  have hlast : W.blocks.getLast? = some W.blocks[m] := by rw [List.getLast?_eq_getElem?, hm, Nat.add_sub_cancel, List.getElem?_eq_getElem hml]
  obtain ⟨b, hb⟩ : ∃ b, b = W.blocks[m] := ⟨_, rfl⟩
  rw [← hb] at hlast
  have cb : w.cell? ⟨kb, m, none⟩ = some (.int .i64 (b : Int)) := by
    have := h3.cells (g := kb) rfl m (.int .i64 (W.blocks[m] : Nat)) (by simp [cellsN, List.getElem?_eq_getElem hml])
    rw [Addr.add_lit, Nat.zero_add, ← hb] at this
    exact this
  have hby : BytesAt w bb 0 W.buf := fun i hi => by
    have := h2.cells (g := bb) rfl i (.int .u8 W.buf[i]) (cellsB_get _ _ hi)
    rw [Addr.add_lit] at this
    exact this
  have c0 : w.cell? ⟨p, 0, none⟩ = some (.pointer (some ⟨d.g, 0, none⟩)) := (blk_cell h1 0).trans rfl
  have c3 : w.cell? ⟨p, 3, none⟩ = some (.slice (some ⟨bb, 0, none⟩) D.unit bc) := (blk_cell h1 3).trans (by rw [← hbuf]; rfl)
  have c4 : w.cell? ⟨p, 4, none⟩ = some (.slice (some ⟨kb, 0, none⟩) (m + 1) kc) := (blk_cell h1 4).trans (by rw [← hm]; rfl)
  have hwr := write_any (w := w.drew) (hdv.kept fun _ _ => rfl) (b : Int) bb 0 bc W.buf hbuf hbl hby (blk_lt hbg) (ha.wd bb (.inr (.inl rfl)))
  have HW := hid hwr
  have HA := hid ha
  have HS := hid hs
  have HL := hid hlast
  have HM := hid hm
  have H1 := hid h1
  have H2 := hid (And.intro h2 h3)
  have HX := hid (And.intro hbg (And.intro hbl (And.intro hbm hbs)))
  have HLN := hid hlen
  have hbc : ¬ bc = 0 := by omega
  have q1 : IntKind.i64.wrap ((m : Int) + 1 - 1) = (m : Int) := by
    rw [show (m : Int) + 1 - 1 = (m : Int) by omega]
    exact wrap_id (by omega) (by omega)
  have q1' : IntKind.i64.wrap (m : Int) = (m : Int) := wrap_id (by omega) (by omega)
  have q2 : (m : Int) < (m : Int) + 1 := by omega
  clear h hdv hs ha hbuf hne h1 h2 h3 hbg hbl hbm hbs hbt hkg hkl hkm hks hkt hm hml hlast hb hby hwr hlen
  go_enter Try.func36, Try.ntmps36
  go_upto_region 1 with fail
  obtain ⟨r, hr⟩ : ∃ r, r = D.write (b : Int) W.buf := ⟨_, rfl⟩
  rw [← hr] at HW
  have HR := hid hr
  clear hr
  go_still_tail 20, (by kernel_rfl)
  generalize hw6 : ({ heap := w.heap, tape := w.tape, drawn := w.drawn + 1, os := w.os, output := w.output } : World) = w6
  have hw6' : w.drew = w6 := hw6
  rw [hw6'] at HW
  have HU6 : Hid (Upd (fun _ => False) w w6) := hid (by rw [← hw6']; exact (Upd.refl _ _).drew)
  clear hw6 hw6' c0 c3 c4 cb q1 q1' q2
  have HRW : Hid (r.1 = (D.write (b : Int) W.buf).1 ∧ r.2 = (D.write (b : Int) W.buf).2) := hid ⟨by rw [HR.out], by rw [HR.out]⟩
  obtain ⟨rc, rD⟩ := r
  by_cases hrc : rc = 0
  · subst hrc
    go_upto_region 4 with (go_at_call 54; refine HW.out.mono ?_; rintro e w7 ⟨rfl, h7, u7⟩; have H7 := hid h7; have U7 := hid u7; clear h7 u7)
    have U07 : Hid (Upd d.S w w7) := hid ⟨U7.out.os.trans HU6.out.os, U7.out.tape.trans HU6.out.tape, U7.out.output.trans HU6.out.output, Nat.le_trans HU6.out.size U7.out.size, fun k hk hn => (U7.out.block k (Nat.lt_of_lt_of_le hk HU6.out.size) hn).trans (HU6.out.block k hk (fun h => h))⟩
    have hpd := HA.out.wd p (.inl rfl)
    have hp7 := (U07.out.block p (blk_lt H1.out) hpd).trans H1.out
    have k3 : w7.cell? ⟨p, 3, none⟩ = some (.slice (some ⟨bb, 0, none⟩) W.buf.length bc) := (blk_cell hp7 3).trans rfl
    have f3 := blk_free hp7 3
    have HP8 := hid (heap_setCell_same w7 p 3 _ _ (.slice (some ⟨bb, 0, none⟩) 0 bc) hp7)
    have HO8 := hid (fun j (hj : j ≠ p) => Below.heap_setCell w7 ⟨p, 3, none⟩ (.slice (some ⟨bb, 0, none⟩) 0 bc) j hj)
    have hbc0 : (0 : Int) ≤ (bc : Int) := by omega
    have U8 := hid ((Upd.refl (fun k => k = p) w7).setCell (p := ⟨p, 3, none⟩) (fun _ => rfl) (.slice (some ⟨bb, 0, none⟩) 0 bc))
    clear hpd hp7
    go_wp2_with fail
    go_ret
    obtain ⟨x1, x2, x3, x4⟩ := HX.out
    have hbp : bb ≠ p := fun e => H0.out.ap.1 (by rw [← e]; rfl)
    have hkp : kb ≠ p := fun e => H0.out.ap.2.1 (by rw [← e]; rfl)
    have hb7 : w7.heap[bb]? = w.heap[bb]? := U07.out.block bb (blk_lt x1) (HA.out.wd bb (.inr (.inl rfl)))
    have hsp : p ≠ s := fun e => HA.out.ws p (.inl rfl) (.inl e)
    refine ⟨b, some bb, some kb, os, HL.out, by rw [← HRW.out.1]; rfl, ?_, .inl ⟨HRW.out.1.symm, ⟨⟨.slice (some ⟨bb, 0, none⟩) 0 bc, .slice (some ⟨kb, 0, none⟩) W.blocks.length kc, rfl, rfl, HP8.out, ⟨rfl, .inr ⟨bb, bc, bcur, rfl, Nat.zero_le _, (HO8.out bb hbp).trans (hb7.trans x1), Nat.zero_le _, x3, x4, by simp [cellsB]⟩⟩, ?_⟩, H0.out.ap⟩, ?_⟩, fun k hk => .inl hk, fun k hk => .inl hk, fun k hk => .inl hk, ?_⟩
    · rw [← HRW.out.2]
      exact H7.out.upd U8.out fun k hk e => HA.out.wd p (.inl rfl) (by rw [← e]; exact hk)
    · refine own_same H2.out.2 fun k hk => ?_
      cases hk
      have hkl : kb < w.heap.size := H0.out.lt kb (.inr (.inr rfl))
      exact (HO8.out kb hkp).trans (U07.out.block kb hkl (HA.out.wd kb (.inr (.inr rfl))))
    · exact (HS.out.upd U07.out (fun h => HA.out.ds s h (.inl rfl)) (fun k hk h => HA.out.ds k h (.inr hk))).upd U8.out (fun h => hsp h.symm) (fun k hk h => HA.out.ws p (.inl rfl) (.inr (by rw [← h]; exact hk)))
    · refine ⟨U07.out.os, U07.out.tape, U07.out.output, Nat.le_trans U07.out.size U8.out.size, fun k hk hn => ?_⟩
      rw [U8.out.block k (Nat.lt_of_lt_of_le hk U07.out.size) (fun e => hn (.inl (.inl e)))]
      exact U07.out.block k hk fun h => hn (.inr (.inl h))
  · have b1 : (rc == 0) = false := beq_eq_false_iff_ne.mpr hrc
    have b2 : decide (rc = 0) = false := decide_eq_false hrc
    have HRC := hid hrc
    clear hrc
    go_upto_region 3 with (go_at_call 54; refine HW.out.mono ?_; rintro e w7 ⟨rfl, h7, u7⟩; have H7 := hid h7; have U7 := hid u7; clear h7 u7)
    have U07 : Hid (Upd d.S w w7) := hid ⟨U7.out.os.trans HU6.out.os, U7.out.tape.trans HU6.out.tape, U7.out.output.trans HU6.out.output, Nat.le_trans HU6.out.size U7.out.size, fun k hk hn => (U7.out.block k (Nat.lt_of_lt_of_le hk HU6.out.size) hn).trans (HU6.out.block k hk (fun h => h))⟩
    have HSP := hid (spoil_any (H0.out.upd U07.out HA.out.wd) (HS.out.upd U07.out (fun h => HA.out.ds s h (.inl rfl)) (fun k hk h => HA.out.ds k h (.inr hk))) HA.out.ws HLN.out rc)
    go_wp2_with (go_at_call 35; refine HSP.out.mono ?_; rintro e w8 ⟨rfl, hw8, os8, hs8, hn8, hu8⟩; have W8 := hid hw8; have S8 := hid hs8; have N8 := hid hn8; have U8 := hid hu8; clear hw8 hs8 hn8 hu8)
    go_ret
    refine ⟨b, none, none, os8, HL.out, by rw [← HRW.out.1]; rfl, ?_, .inr ⟨by rw [← HRW.out.1]; exact HRC.out, by rw [← HRW.out.1]; exact W8.out, S8.out⟩, fun k hk => (by cases hk), fun k hk => (by cases hk), fun k hk => (N8.out k hk).imp id fun h => Nat.le_trans U07.out.size h, ?_⟩
    · rw [← HRW.out.2]
      exact H7.out.upd U8.out fun k hk h => by
        rcases h with rfl | h
        · exact HA.out.wd k (.inl rfl) hk
        · exact HA.out.ds k hk h
    · refine ⟨U8.out.os.trans U07.out.os, U8.out.tape.trans U07.out.tape, U8.out.output.trans U07.out.output, Nat.le_trans U07.out.size U8.out.size, fun k hk hn => ?_⟩
      rw [U8.out.block k (Nat.lt_of_lt_of_le hk U07.out.size) (fun h => by
        rcases h with h | h
        · exact hn (.inl (.inl h))
        · exact hn (.inr (.inr h)))]
      exact U07.out.block k hk fun h => hn (.inr (.inl h))
end Go.Proofs.Ytkhejipcclpknaa
