/- A read of a device's block is counted. No statement is proved here. -/
import Derived.Test.YtkhejipcclpknaaSD
import Derived.StillTactics
import Derived.Deep.RegionWith
set_option linter.unusedVariables false
set_option linter.unusedSimpArgs false
namespace Go.Proofs.Ytkhejipcclpknaa
open Go.RowKit

def Dv.bump (D : Dv) (k b : Int) : Dv := { D with rd := updP D.rd k b (wr64 (D.rd k b + 1)) }
def Dv.readB (D : Dv) (k b : Int) : Bool := ((D.bump k b).hit k b (wr64 (D.rd k b + 1))).isNone
def Dv.readD (D : Dv) (k b : Int) : Dv := if D.readB k b = true then D.bump k b else { D.bump k b with ck := wr64 (D.ck + 1) }
theorem DvM.set {w : World} {d : Dl} {D D' : Dv} (h : DvM w d D) (i : Nat) (v : Value) (hc : (D.cells d).setIfInBounds i v = D'.cells d) (h1 : D'.inp = D.inp) (h2 : D'.mem = D.mem) (h3 : D'.fs = D.fs) (h4 : D'.rd = D.rd) (h5 : D'.unit = D.unit) (h6 : D'.scr = D.scr) :
    DvM (w.setCell ⟨d.g, i, none⟩ v) d D' := by
  obtain ⟨a1, a2, a3, a4, a5, a6, a7, a8, a9, a10⟩ := h.ap
  have hne : ∀ j, j ≠ d.g → (w.setCell ⟨d.g, i, none⟩ v).heap[j]? = w.heap[j]? := fun j hj => Below.heap_setCell w ⟨d.g, i, none⟩ v j hj
  refine ⟨?_, ?_, ?_, ?_, ?_, h.ap, by rw [h5]; exact h.u0, by rw [h5]; exact h.u1, by rw [h6]; exact h.s1, by rw [h1]; exact h.i1, by rw [h2, h5, h6]; exact h.ml, by rw [h3]; exact h.fl, by rw [h3, h5]; exact h.fk⟩
  · rw [← hc]
    exact heap_setCell_same w d.g i _ _ v h.hg
  · obtain ⟨cur, k1, k2, k3, k4, k5⟩ := h.hi
    exact ⟨cur, (hne _ (fun e => a1 e.symm)).trans k1, by rw [h1]; exact k2, k3, k4, fun i hi => by
      have := k5 i (by rw [← h1]; exact hi)
      simpa [h1] using this⟩
  · obtain ⟨cur, k1, k2⟩ := h.hs
    exact ⟨cur, (hne _ (fun e => a2 e.symm)).trans k1, by rw [h2]; exact k2⟩
  · rw [h4]
    exact h.hm.kept (hne _ (fun e => a3 e.symm))
  · rw [h3]
    exact own_same h.hf fun j hj => hne j (fun e => a7 (by rw [hj, e]))
theorem DvM.setCk {w : World} {d : Dl} {D : Dv} (h : DvM w d D) (c : Int) : DvM (w.setCell ⟨d.g, 9, none⟩ (.int .i64 c)) d { D with ck := c } := h.set 9 _ rfl rfl rfl rfl rfl rfl rfl
theorem DvM.setCi {w : World} {d : Dl} {D : Dv} (h : DvM w d D) (c : Int) : DvM (w.setCell ⟨d.g, 6, none⟩ (.int .i64 c)) d { D with ci := c } := h.set 6 _ rfl rfl rfl rfl rfl rfl rfl
theorem DvM.setCs {w : World} {d : Dl} {D : Dv} (h : DvM w d D) (c : Int) : DvM (w.setCell ⟨d.g, 7, none⟩ (.int .i64 c)) d { D with cs := c } := h.set 7 _ rfl rfl rfl rfl rfl rfl rfl
theorem DvM.setCw {w : World} {d : Dl} {D : Dv} (h : DvM w d D) (c : Int) : DvM (w.setCell ⟨d.g, 8, none⟩ (.int .i64 c)) d { D with cw := c } := h.set 8 _ rfl rfl rfl rfl rfl rfl rfl
theorem DvM.setDown {w : World} {d : Dl} {D : Dv} (h : DvM w d D) (c : Bool) : DvM (w.setCell ⟨d.g, 10, none⟩ (.bool c)) d { D with down := c } := h.set 10 _ rfl rfl rfl rfl rfl rfl rfl
theorem box_late {w w5 : World} {cs : Array Value} {t : TypeId} (hb : Below (w.alloc (.cells cs t)).drew.heap.size (w.alloc (.cells cs t)).drew w5) : w5.heap[w.heap.size]? = some (.cells cs t (0, 0)) :=
  (hb.block w.heap.size (by
    show w.heap.size < (w.alloc (.cells cs t)).heap.size
    rw [World.size_alloc]
    exact Nat.lt_succ_self _)).trans (heap_alloc_new w _)
theorem below_box {w w5 : World} {o : Obj} (hb : Below (w.alloc o).drew.heap.size (w.alloc o).drew w5) : Below w.heap.size w w5 :=
  ((Below.refl _ w).alloc (Nat.le_refl _) o).drew.trans (hb.mono ((Below.refl _ w).alloc (Nat.le_refl _) o).size)
theorem below_drew {w w5 : World} (hb : Below w.drew.heap.size w.drew w5) : Below w.heap.size w w5 := ⟨hb.os, hb.tape, hb.output, hb.size, hb.block⟩
theorem wr64_wf (x : Int) : (Lit.int .i64 (wr64 x)).wf = true := by
  unfold wr64 wrap64
  exact wfI (by omega) (by omega)
theorem DvM.bump {w w' : World} {d : Dl} {D : Dv} (h : DvM w d D) (k b : Int) (hm : PMap w' d.mb (updP D.rd k b (wr64 (D.rd k b + 1)))) (hb : ∀ j, d.S j → j ≠ d.mb → w'.heap[j]? = w.heap[j]?) : DvM w' d (D.bump k b) := by
  obtain ⟨a1, a2, a3, a4, a5, a6, a7, a8, a9, a10⟩ := h.ap
  refine ⟨(hb _ (.inl rfl) a3).trans h.hg, ?_, ?_, hm, own_same h.hf fun j hj => hb j (.inr (.inr (.inr (.inr hj)))) (fun e => a10 (by rw [hj, e])), h.ap, h.u0, h.u1, h.s1, h.i1, h.ml, h.fl, h.fk⟩
  · obtain ⟨cur, h1, r⟩ := h.hi
    exact ⟨cur, (hb _ (.inr (.inl rfl)) a5).trans h1, r⟩
  · obtain ⟨cur, h1, r⟩ := h.hs
    exact ⟨cur, (hb _ (.inr (.inr (.inl rfl))) a6).trans h1, r⟩
set_option maxHeartbeats 4000000 in
set_option maxRecDepth 100000 in
theorem read_any {w : World} {d : Dl} {D : Dv} (h : DvM w d D) (k b : Int) (hk : okP k b) :
    Calls Try.prog 104 #[.pointer (some ⟨d.g, 0, none⟩), .int .i64 k, .int .i64 b] w fun e w' => e = .returned (.bool (D.readB k b)) ∧ DvM w' d (D.readD k b) ∧ Upd d.S w w' := by
  have hgl := blk_lt h.hg
  have hal := (Below.refl _ w).alloc (Nat.le_refl _) (.cells #[.int .i64 k, .int .i64 b] 183)
  have H1 := hid (h.below hal)
  have X1 : Hid ((w.alloc (.cells #[.int .i64 k, .int .i64 b] 183)).heap[w.heap.size]? = some (.cells #[.int .i64 k, .int .i64 b] 183 (0, 0))) := hid (heap_alloc_new w _)
  have U1 := hid (Upd.of_new (S := d.S) hal)
  have HLT := hid h.lt
  clear h hal
  go_enter Try.func104, Try.ntmps104
  go_upto_region 2 with fail
  obtain ⟨w1, hw1⟩ : ∃ w1, w.alloc (.cells #[.int .i64 k, .int .i64 b] 183) = w1 := ⟨_, rfl⟩
  obtain ⟨tb, htb⟩ : ∃ tb, tb = w.heap.size := ⟨_, rfl⟩
  rw [hw1] at H1 X1 U1 ⊢
  rw [← htb] at X1 ⊢
  have htd : Hid (∀ j, d.S j → j ≠ tb) := hid fun j hj e => Nat.lt_irrefl _ (HLT.out j hj |> fun h => by rw [e, htb] at h; exact h)
  clear hw1 htb hgl
  obtain ⟨c, hc⟩ : ∃ c, c = D.rd k b := ⟨_, rfl⟩
  obtain ⟨c1, hc1⟩ : ∃ c1, c1 = wr64 (c + 1) := ⟨_, rfl⟩
  have hwr2 : wrap64 (c + 1) = c1 := hc1.symm
  obtain ⟨v0, st, w2, he, hP2, hg2, hs2, hst⟩ := PMap.bump (w := w1.drew) (H1.out.hm.kept rfl) hk
  obtain ⟨w3, hst3, hP3, hg3, hs3⟩ := hst c1 (by rw [hc1]; exact wr64_wf _) w2 rfl
  have hl1 : (Instr.lookup 76 (.map (some d.mb)) (.agg #[.int .i64 k, .int .i64 b]) false).run Try.prog w1.drew = .ok (.int .i64 c) w1.drew := by rw [hc]; exact PMap.get (w := w1.drew) (H1.out.hm.kept rfl) hk
  have hl2 : (Instr.lookup 76 (.map (some d.mb)) (.agg #[.int .i64 k, .int .i64 b]) false).run Try.prog w2 = .ok (.int .i64 c) w2 := by rw [hc]; exact PMap.get hP2 hk
  have g5 : w1.cell? ⟨d.g, 5, none⟩ = some (.map (some d.mb)) := (H1.out.cell 5).trans rfl
  have x0 : w1.cell? ⟨tb, 0, none⟩ = some (.int .i64 k) := (blk_cell X1.out 0).trans rfl
  have x1 : w1.cell? ⟨tb, 1, none⟩ = some (.int .i64 b) := (blk_cell X1.out 1).trans rfl
  have HP3 := hid hP3
  have HG2 := hid hg2
  have HG3 := hid hg3
  have HC := hid hc
  have HC1 := hid hc1
  clear hst hP2 hP3 hg2 hg3 hs2 hs3 hc hc1
  unfold aggP goInt at he
  unfold goInt at hst3
  go_region
  have hmd := H1.out.ap
  have hal3 := ((Below.refl _ w3).alloc (Nat.le_refl _) (.cells #[.int .i64 0, .int .i64 0, .int .i64 0, .int .i64 0] 60)).drew
  have H3 : Hid (DvM w3 d (D.bump k b)) := hid (H1.out.bump k b (by rw [HC1.out, HC.out] at HP3; exact HP3.out) fun j hj hjm => by
    have hlt := H1.out.lt j hj
    rw [HG3.out.block j (Nat.lt_of_lt_of_le hlt HG2.out.size) (fun e => hjm (by cases e; rfl)), HG2.out.block j hlt (fun e => hjm (by cases e; rfl))]
    rfl)
  have U3 : Hid (Upd d.S w w3) := hid (((U1.out.drew).trans (Upd.of_grown HG2.out |>.mono fun j _ e => by cases e; exact .inr (.inr (.inr (.inl rfl)))) fun _ _ h => h).trans (Upd.of_grown HG3.out |>.mono fun j _ e => by cases e; exact .inr (.inr (.inr (.inl rfl)))) fun _ _ h => h)
  have X3 : Hid (w3.heap[tb]? = some (.cells #[.int .i64 k, .int .i64 b] 183 (0, 0))) := hid (by
    have hlt : tb < w1.heap.size := blk_lt X1.out
    have hne : some tb ≠ some d.mb := fun e => htd.out d.mb (.inr (.inr (.inr (.inl rfl)))) (by cases e; rfl)
    rw [HG3.out.block tb (Nat.lt_of_lt_of_le hlt HG2.out.size) hne, HG2.out.block tb hlt hne]
    exact X1.out)
  have hl3 : (Instr.lookup 76 (.map (some d.mb)) (.agg #[.int .i64 k, .int .i64 b]) false).run Try.prog w3.drew = .ok (.int .i64 c1) w3.drew := by
    have := PMap.get (w := w3.drew) (H3.out.hm.kept rfl) hk
    rw [HC1.out, HC.out]
    rw [show (D.bump k b).rd k b = wr64 (D.rd k b + 1) from updP_same _ _ _ _] at this
    exact this
  have hl4 : (Instr.lookup 76 (.map (some d.mb)) (.agg #[.int .i64 k, .int .i64 b]) false).run Try.prog (w3.alloc (.cells #[.int .i64 0, .int .i64 0, .int .i64 0, .int .i64 0] 60)).drew = .ok (.int .i64 c1) (w3.alloc (.cells #[.int .i64 0, .int .i64 0, .int .i64 0, .int .i64 0] 60)).drew := by
    have := PMap.get (w := (w3.alloc (.cells #[.int .i64 0, .int .i64 0, .int .i64 0, .int .i64 0] 60)).drew) (H3.out.hm.kept (hal3.block d.mb H3.out.hm.lt)) hk
    rw [HC1.out, HC.out]
    rw [show (D.bump k b).rd k b = wr64 (D.rd k b + 1) from updP_same _ _ _ _] at this
    exact this
  clear hl1 hl2 he hst3 g5 x0 x1 hwr2
  have g5 : w3.cell? ⟨d.g, 5, none⟩ = some (.map (some d.mb)) := (H3.out.cell 5).trans rfl
  have x0 : w3.cell? ⟨tb, 0, none⟩ = some (.int .i64 k) := (blk_cell X3.out 0).trans rfl
  have x1 : w3.cell? ⟨tb, 1, none⟩ = some (.int .i64 b) := (blk_cell X3.out 1).trans rfl
  have hg3 : d.g < w3.heap.size := blk_lt H3.out.hg
  have ht3 : tb < w3.heap.size := blk_lt X3.out
  have g5' : (w3.alloc (.cells #[.int .i64 0, .int .i64 0, .int .i64 0, .int .i64 0] 60)).cell? ⟨d.g, 5, none⟩ = some (.map (some d.mb)) := (hal3.cell (p := ⟨d.g, 5, none⟩) hg3).trans g5
  have x0' : (w3.alloc (.cells #[.int .i64 0, .int .i64 0, .int .i64 0, .int .i64 0] 60)).cell? ⟨tb, 0, none⟩ = some (.int .i64 k) := (hal3.cell (p := ⟨tb, 0, none⟩) ht3).trans x0
  have x1' : (w3.alloc (.cells #[.int .i64 0, .int .i64 0, .int .i64 0, .int .i64 0] 60)).cell? ⟨tb, 1, none⟩ = some (.int .i64 b) := (hal3.cell (p := ⟨tb, 1, none⟩) ht3).trans x1
  have HS := hid (struck_any (w := w3.drew) (H3.out.kept fun _ _ => rfl) k b c1)
  have HS' := hid (struck_any (w := (w3.alloc (.cells #[.int .i64 0, .int .i64 0, .int .i64 0, .int .i64 0] 60)).drew) (H3.out.below hal3) k b c1)
  have HAL := hid hal3
  clear hal3 hmd
  go_upto_region 3 with fail
  have HHC := hid (show wr64 (D.rd k b + 1) = c1 by rw [HC1.out, HC.out])
  cases hh : (D.bump k b).hit k b c1 with
  | none =>
    rw [hh] at HS HS'
    unfold hitV at HS HS'
    have HRB := hid (show D.readB k b = true by unfold Dv.readB; rw [HHC.out, hh]; rfl)
    clear hh
    (go_region_with (first | (go_at_call 67; with_reducible (show Calls _ _ _ (World.drew (World.alloc _ _)) _); refine HS'.out.mono ?_; rintro e w5 ⟨rfl, hb5⟩; have zz := box_late hb5; have z0 : w5.cell? ⟨w3.heap.size, 0, none⟩ = some (.int .i64 0) := (blk_cell zz 0).trans rfl; have f0 := blk_free zz 0; have z1 : w5.cell? ⟨w3.heap.size, 1, none⟩ = some (.int .i64 0) := (blk_cell zz 1).trans rfl; have f1 := blk_free zz 1; have z2 : w5.cell? ⟨w3.heap.size, 2, none⟩ = some (.int .i64 0) := (blk_cell zz 2).trans rfl; have f2 := blk_free zz 2; have z3 : w5.cell? ⟨w3.heap.size, 3, none⟩ = some (.int .i64 0) := (blk_cell zz 3).trans rfl; have f3 := blk_free zz 3; have ZZ := hid zz; have HB5 := hid (below_box hb5); clear zz) | (go_at_call 67; with_reducible (show Calls _ _ _ (World.drew _) _); refine HS.out.mono ?_; rintro e w5 ⟨rfl, hb5⟩; have HB5 := hid (below_drew hb5))))
    all_goals first
      | (obtain ⟨w6, hw6⟩ : ∃ w6, (((w5.setCell ⟨w3.heap.size, 0, none⟩ (.int .i64 0)).setCell ⟨w3.heap.size, 1, none⟩ (.int .i64 0)).setCell ⟨w3.heap.size, 2, none⟩ (.int .i64 0)).setCell ⟨w3.heap.size, 3, none⟩ (.int .i64 0) = w6 := ⟨_, rfl⟩
         have HB6 : Hid (Below w3.heap.size w3 w6) := hid (by rw [← hw6]; exact HB5.out.trans (set4_below w5 w3.heap.size _ _ _ _ (Nat.le_refl _)))
         rw [hw6]
         clear hw6 z0 z1 z2 z3 f0 f1 f2 f3)
      | (obtain ⟨w6, hw6⟩ : ∃ w6, w5.alloc (.cells #[(.int .i64 0), (.int .i64 0), (.int .i64 0), (.int .i64 0)] 60) = w6 := ⟨_, rfl⟩
         have HB6 : Hid (Below w3.heap.size w3 w6) := hid (by rw [← hw6]; exact HB5.out.alloc HB5.out.size _)
         rw [hw6]
         clear hw6)
    all_goals clear g5 x0 x1 g5' x0' x1' hl3 hl4
    all_goals go_wp2_with fail
    all_goals go_ret
    all_goals exact ⟨by rw [HRB.out]; rfl, by unfold Dv.readD; rw [if_pos HRB.out]; exact H3.out.below HB6.out, U3.out.trans (Upd.of_new HB6.out) fun _ _ h => h⟩
  | some f =>
    rw [hh] at HS HS'
    unfold hitV at HS HS'
    have HRB := hid (show D.readB k b = false by unfold Dv.readB; rw [HHC.out, hh]; rfl)
    clear hh
    (go_region_with (first | (go_at_call 67; with_reducible (show Calls _ _ _ (World.drew (World.alloc _ _)) _); refine HS'.out.mono ?_; rintro e w5 ⟨rfl, hb5⟩; have zz := box_late hb5; have z0 : w5.cell? ⟨w3.heap.size, 0, none⟩ = some (.int .i64 0) := (blk_cell zz 0).trans rfl; have f0 := blk_free zz 0; have z1 : w5.cell? ⟨w3.heap.size, 1, none⟩ = some (.int .i64 0) := (blk_cell zz 1).trans rfl; have f1 := blk_free zz 1; have z2 : w5.cell? ⟨w3.heap.size, 2, none⟩ = some (.int .i64 0) := (blk_cell zz 2).trans rfl; have f2 := blk_free zz 2; have z3 : w5.cell? ⟨w3.heap.size, 3, none⟩ = some (.int .i64 0) := (blk_cell zz 3).trans rfl; have f3 := blk_free zz 3; have ZZ := hid zz; have HB5 := hid (below_box hb5); clear zz) | (go_at_call 67; with_reducible (show Calls _ _ _ (World.drew _) _); refine HS.out.mono ?_; rintro e w5 ⟨rfl, hb5⟩; have HB5 := hid (below_drew hb5))))
    all_goals first
      | (obtain ⟨w6, hw6⟩ : ∃ w6, (((w5.setCell ⟨w3.heap.size, 0, none⟩ (.int .i64 f.kind)).setCell ⟨w3.heap.size, 1, none⟩ (.int .i64 f.blk)).setCell ⟨w3.heap.size, 2, none⟩ (.int .i64 f.nth)).setCell ⟨w3.heap.size, 3, none⟩ (.int .i64 f.keep) = w6 := ⟨_, rfl⟩
         have HB6 : Hid (Below w3.heap.size w3 w6) := hid (by rw [← hw6]; exact HB5.out.trans (set4_below w5 w3.heap.size _ _ _ _ (Nat.le_refl _)))
         rw [hw6]
         clear hw6 z0 z1 z2 z3 f0 f1 f2 f3)
      | (obtain ⟨w6, hw6⟩ : ∃ w6, w5.alloc (.cells #[(.int .i64 f.kind), (.int .i64 f.blk), (.int .i64 f.nth), (.int .i64 f.keep)] 60) = w6 := ⟨_, rfl⟩
         have HB6 : Hid (Below w3.heap.size w3 w6) := hid (by rw [← hw6]; exact HB5.out.alloc HB5.out.size _)
         rw [hw6]
         clear hw6)
    all_goals clear g5 x0 x1 g5' x0' x1' hl3 hl4
    all_goals have H6 := hid (H3.out.below HB6.out)
    all_goals have g9 : w6.cell? ⟨d.g, 9, none⟩ = some (.int .i64 D.ck) := (H6.out.cell 9).trans rfl
    all_goals have f9 := H6.out.free 9
    all_goals have H7 := hid (H6.out.setCk (wr64 (D.ck + 1)))
    all_goals have U7 := hid ((U3.out.trans (Upd.of_new HB6.out) fun _ _ h => h).setCell (p := ⟨d.g, 9, none⟩) (fun _ => .inl rfl) (.int .i64 (wr64 (D.ck + 1))))
    all_goals unfold wr64 at H7 U7
    all_goals go_wp2_with fail
    all_goals go_ret
    all_goals exact ⟨by rw [HRB.out]; rfl, by unfold Dv.readD; rw [if_neg (by rw [HRB.out]; simp)]; exact H7.out, U7.out⟩
end Go.Proofs.Ytkhejipcclpknaa
