/- The walk of Write. No statement is proved here. -/
import Derived.Test.YtkhejipcclpknaaTC
import Derived.Deep.LoopGhost
import Derived.Deep.DeepCutAuto
import Derived.Deep.RegionLaw
set_option linter.unusedVariables false
set_option linter.unusedSimpArgs false
namespace Go.Proofs.Ytkhejipcclpknaa
open Go.RowKit

/-- What a writer keeps between the rounds; m bytes are to come. -/
structure WInv (W : Wt) (U m : Nat) : Prop where
  u : W.unit = U
  bu : W.buf.length < U
  bb : W.buf ≠ [] → W.blocks ≠ []
  bl : W.blocks.length + m ≤ 1000000
  s0 : 0 ≤ W.size
  s1 : W.size + m ≤ 1000000000000
theorem wt_size {w : World} {p g s : Nat} {o o' : Option Nat} {W : Wt} (h : WtM w p g s o o' W) (z : Int) : WtM (w.setCell ⟨p, 5, none⟩ (.int .i64 z)) p g s o o' { W with size := z } := by
  obtain ⟨v, v0, e1, e2, h1, h2, h3⟩ := h.ex
  refine ⟨⟨v, v0, e1, e2, heap_setCell_same w p 5 _ _ (.int .i64 z) h1, own_same h2 fun k hk => ?_, own_same h3 fun k hk => ?_⟩, h.ap⟩
  · exact Below.heap_setCell w ⟨p, 5, none⟩ _ k fun e => h.ap.1 (by rw [← e1, hk]; exact congrArg some e)
  · exact Below.heap_setCell w ⟨p, 5, none⟩ _ k fun e => h.ap.2.1 (by rw [← e2, hk]; exact congrArg some e)
theorem bytes_take {w : World} {b o : Nat} {l : List Int} (h : BytesAt w b o l) (k : Nat) : BytesAt w b o (l.take k) := fun i hi => by
  rw [List.length_take] at hi
  rw [List.getElem_take]
  exact h i (by omega)
theorem bytes_drop {w : World} {b o : Nat} {l : List Int} (h : BytesAt w b o l) (k : Nat) : BytesAt w b (o + k) (l.drop k) := fun i hi => by
  rw [List.length_drop] at hi
  rw [List.getElem_drop, Nat.add_assoc]
  exact h (k + i) (by omega)
theorem write_unit (D : Dv) (b : Int) (l : List Int) : (D.write b l).2.unit = D.unit := by
  unfold Dv.write Dv.put
  split
  · rfl
  · split
    · rfl
    · split
      · rfl
      · split <;> rfl
def WritePost (w : World) (p s : Nat) (d : Dl) (o o' os : Option Nat) (n : Nat) (r : Int × Wt × Dv × (Int → Bool)) (e : Ending) (w' : World) : Prop :=
  e = .returned (.int .i64 r.1) ∧ ∃ o1 o1' os1, Wh w' p s d o1 o1' os1 n r.2.2.2 r.2.1 r.2.2.1 ∧ WhStep w w' p s d o o' os o1 o1' os1
/-- The bytes that are left are read where they lie. -/
def Src (w : World) (p s : Nat) (d : Dl) (o o' os : Option Nat) (a : Option Addr) (c : Nat) (l : List Int) : Prop := l.length ≤ c ∧ (l ≠ [] → ∃ b off, a = some ⟨b, off, none⟩ ∧ b < w.heap.size ∧ ¬ allS p o o' d s os b ∧ BytesAt w b off l)
theorem wAlloc_keep {n : Nat} {W W1 : Wt} {F F1 : Int → Bool} {U m : Nat} (h : wAlloc n W F = some (W1, F1)) (hi : WInv W U (m + 1)) : W1.blocks ≠ [] ∧ W1.unit = U ∧ W1.buf.length < U ∧ W1.blocks.length + m ≤ 1000000 ∧ 0 ≤ W1.size ∧ W1.size + (m + 1 : Nat) ≤ 1000000000000 := by
  obtain ⟨e1, e2, e3, _⟩ := wAlloc_buf h
  have h1 := hi.bl
  have hb : W1.blocks ≠ [] ∧ W1.blocks.length ≤ W.blocks.length + 1 := by
    unfold wAlloc at h
    split at h
    · rw [Option.map_eq_some_iff] at h
      obtain ⟨b, _, hb⟩ := h
      cases hb
      simp
    · rename_i hne
      cases h
      exact ⟨hi.bb hne, by omega⟩
  exact ⟨hb.1, e2.trans hi.u, by rw [e1]; exact hi.bu, by omega, by rw [e3]; exact hi.s0, by rw [e3]; exact hi.s1⟩
set_option maxHeartbeats 8000000 in
set_option maxRecDepth 100000 in
theorem write_bytes {w : World} {p s n : Nat} {d : Dl} {o o' os : Option Nat} {F : Int → Bool} {W : Wt} {D : Dv} (h : Wh w p s d o o' os n F W D) (hr : W.ready = 0) (l : List Int) (hi : WInv W D.unit l.length) (a : Option Addr) (c : Nat) (hc : Src w p s d o o' os a c l) :
    Calls Try.prog 14 #[.pointer (some ⟨p, 0, none⟩), .slice a l.length c] w (WritePost w p s d o o' os n (wWrite n W D F l)) := by
  have HRD := hid (ready_any h.wt)
  rw [hr] at HRD
  have H := hid h
  have HC := hid hc
  have HI := hid hi
  have HUN := hid h.dv.u1
  obtain ⟨U, hU⟩ : ∃ U, U = D.unit := ⟨_, rfl⟩
  rw [← hU] at HI HUN
  have HU := hid hU
  obtain ⟨L, hL⟩ : ∃ L, L = l.length := ⟨_, rfl⟩
  rw [← hL] at HI ⊢
  have HL := hid hL
  clear h hr hi hc hU hL
  go_enter Try.func14, Try.ntmps14
  go_upto_region 4 with (go_at_call 33; refine HRD.out.mono ?_; rintro e w1 ⟨rfl, h1⟩; rw [h1]; clear h1 w1)
  go_loopg [1] L (fun gh s1 wr => ∃ (W' : Wt) (D' : Dv) (F' : Int → Bool) (o1 o1' os1 : Option Nat) (l' : List Int) (L' : Nat) (a' : Option Addr) (c' : Nat), L' = gh ∧ s1 = .slice a' L' c' ∧ Hid (L' = l'.length) ∧ Hid (Wh wr p s d o1 o1' os1 n F' W' D') ∧ Hid (WhStep w wr p s d o o' os o1 o1' os1) ∧ Hid (Src w p s d o o' os a' c' l') ∧ Hid (WInv W' U L') ∧ Hid (D'.unit = U) ∧ Hid (wWrite n W D F l = wWrite n W' D' F' l'))
  case atStart => exact ⟨W, D, F, o, o', os, l, L, a, c, rfl, rfl, HL, H, hid (WhStep.refl _ _ _ _ _ _ _), HC, HI, hid HU.out.symm, hid rfl⟩
  case round =>
    obtain ⟨W', D', F', o1, o1', os1, l', L', a', c', rfl, rfl, HL', H', HST, HC', HI', HU', HW⟩ := hrel
    by_cases hl0 : L' = 0
    · subst hl0
      have hnil : l' = [] := List.eq_nil_of_length_eq_zero HL'.out.symm
      have HW0 : Hid (wWrite n W D F l = (0, W', D', F')) := hid (by rw [HW.out, hnil]; rfl)
      clear hnil
      go_wp2_with fail
      go_ret
      exact ⟨by rw [HW0.out]; rfl, o1, o1', os1, by rw [HW0.out]; exact H'.out, HST.out⟩
    · have hL1 : (0 : Int) < (L' : Int) := by omega
      have hL0 := hid hl0
      clear hl0
      obtain ⟨B, hB⟩ : ∃ B, B = W'.buf.length := ⟨_, rfl⟩
      have HB := hid hB
      obtain ⟨a3, c3, k3⟩ : ∃ a3 c3, wr.cell? ⟨p, 3, none⟩ = some (.slice a3 B c3) := by
        obtain ⟨v, v0, e1, e2, h1, h2, h3⟩ := H'.out.wt.ex
        obtain ⟨a3, c3, e⟩ := own_slc h2
        exact ⟨a3, c3, (blk_cell h1 3).trans (by rw [e, hB]; rfl)⟩
      have k1 : wr.cell? ⟨p, 1, none⟩ = some (.pointer (some ⟨s, 0, none⟩)) := by
        obtain ⟨v, v0, e1, e2, h1, h2, h3⟩ := H'.out.wt.ex
        exact (blk_cell h1 1).trans rfl
      clear hB
      go_upto_if 23 with fail
      go_cut [1] (fun s1 wx => s1 = .slice a' L' c' ∧ ∃ (W1 : Wt) (F1 : Int → Bool) (o2' os2 : Option Nat), Hid (wAlloc n W' F' = some (W1, F1)) ∧ Hid (Wh wx p s d o1 o2' os2 n F1 W1 D') ∧ Hid (WhStep w wx p s d o o' os o1 o2' os2))
      case first =>
        by_cases hb0 : B = 0
        · subst hb0
          have HA := hid (alloc1_any H'.out.sp)
          have hbn : W'.buf = [] := List.eq_nil_of_length_eq_zero HB.out.symm
          have HWA : Hid (wAlloc n W' F' = (allocB n F').map fun b => ({ W' with blocks := W'.blocks ++ [b] }, takeF F' b)) := hid (by unfold wAlloc; rw [if_pos hbn])
          clear hbn
          go_upto_region 7 with (go_at_call 34; refine HA.out.mono ?_; rintro e w3 (⟨b, hb, hF, hlt, rfl, os2, h3, st3⟩ | ⟨hno, rfl, hb3⟩) <;> unfold pairV)
          · have H3 := hid h3
            have ST3 := hid st3
            have HWB : Hid (wAlloc n W' F' = some ({ W' with blocks := W'.blocks ++ [b] }, takeF F' b)) := hid (by rw [HWA.out, allocB_eq hb hF hlt]; rfl)
            clear hb hF hlt h3 st3
            have ST1 : Hid (WhStep wr w3 p s d o1 o1' os1 o1 o1' os2) := hid ⟨Heir.refl _ _, Heir.refl _ _, ST3.out.new, ST3.out.upd.mono fun k hk h => .inr (.inr h)⟩
            have HN3 : Hid (Wh w3 p s d o1 o1' os2 n (takeF F' b) W' D') := hid (H'.out.next ST1.out (H'.out.wt.upd ST3.out.upd fun k hk h => H'.out.ap.ws k hk h) (H'.out.dv.upd ST3.out.upd fun k hk h => H'.out.ap.ds k hk h) H3.out)
            have hal := (Below.refl _ w3).alloc (Nat.le_refl _) (.cells #[.int .i64 (b : Int), .int .i64 1] 83)
            have X4 := heap_alloc_new w3 (.cells #[.int .i64 (b : Int), .int .i64 1] 83)
            obtain ⟨w4, hw4⟩ : ∃ w4, w3.alloc (.cells #[.int .i64 (b : Int), .int .i64 1] 83) = w4 := ⟨_, rfl⟩
            obtain ⟨t6, ht6⟩ : ∃ t6, t6 = w3.heap.size := ⟨_, rfl⟩
            rw [← ht6] at X4 ⊢
            rw [hw4] at hal X4 ⊢
            clear hw4 ht6
            have HN4 := hid (HN3.out.below hal)
            have ST4 := hid (HST.out.trans (ST1.out.trans (WhStep.below hal)))
            have hbl4 : W'.blocks.length ≤ 1000000 := by have := HI'.out.bl; omega
            obtain ⟨vb, v', w5, o2', hbr⟩ := block_run HN4.out.wt b 37 hbl4
            obtain ⟨av, cv, rfl⟩ := hbr.vs
            have BR := hid hbr
            have c5 := hbr.c1
            have hal5 := ((Below.refl _ w4).alloc (Nat.le_refl _) (.cells #[.int .i64 (b : Int)] 3))
            have c6 : w4.cell? ⟨t6, 0, none⟩ = some (.int .i64 (b : Int)) := (blk_cell X4 0).trans rfl
            have c4 := hbr.c0
            have hpl := HN4.out.wt.lt p (.inl rfl)
            have c4a : (w4.alloc (.cells #[.int .i64 (b : Int)] 3)).cell? ⟨p, 4, none⟩ = some vb := (hal5.cell (p := ⟨p, 4, none⟩) hpl).trans c4
            have hrun := hbr.run
            have f4 := hbr.fr
            clear hal hbl4 hbr hal5 X4 hpl k1 k3 hL1
            go_upto_region 9 with fail
            go_region_law (refine step_append_run rfl (.tmp 41) (.tmp 44) 37 37 rfl _ _ rfl rfl hrun ?_)
            all_goals
              have ST5 : Hid (WhStep w4 (w5.setCell ⟨p, 4, none⟩ (.slice av (W'.blocks.length + 1) cv)) p s d o1 o1' os2 o1 o2' os2) := hid ⟨Heir.refl _ _, BR.out.hr, Heir.refl _ _, BR.out.up.mono fun k _ h => .inl h⟩
              have HN5 := hid (HN4.out.next ST5.out BR.out.wt (HN4.out.dv.upd BR.out.up fun k hk h => HN4.out.ap.wd k h hk) (HN4.out.sp.upd BR.out.up (fun h => HN4.out.ap.ws s h (.inl rfl)) fun k hk h => HN4.out.ap.ws k h (.inr hk)))
              have ST6 := hid (ST4.out.trans ST5.out)
              go_wp2_with fail
              go_meet
              case rel => exact ⟨rfl, _, _, o2', os2, HWB, HN5, ST6⟩
          · have HB3 := hid hb3
            have HWN : Hid (wAlloc n W' F' = none) := hid (by rw [HWA.out, allocB_none hno]; rfl)
            clear hb3 hno
            have hal := HB3.out.alloc HB3.out.size (.cells #[.int .i64 0, .int .i64 0] 83)
            obtain ⟨w4, hw4⟩ : ∃ w4, w3.alloc (.cells #[.int .i64 0, .int .i64 0] 83) = w4 := ⟨_, rfl⟩
            rw [hw4] at hal ⊢
            clear hw4
            have HN4 := hid (H'.out.below hal)
            have ST4 := hid (HST.out.trans (WhStep.below hal))
            have HSP := hid (spoil_any HN4.out.wt HN4.out.sp HN4.out.ap.ws (by have := HI'.out.bl; omega) 42)
            clear hal
            go_wp2_with (go_at_call 35; refine HSP.out.mono ?_; rintro e w8 ⟨rfl, hw8, os8, hs8, hn8, hu8⟩; have W8 := hid hw8; have S8 := hid hs8; have N8 := hid hn8; have U8 := hid hu8; clear hw8 hs8 hn8 hu8)
            go_ret
            have hne : l' ≠ [] := fun h => hL0.out (by rw [HL'.out, h]; rfl)
            have hw := wWrite_none (D := D') hne HWN.out
            have ST8 : WhStep w4 w8 p s d o1 o1' os1 none none os8 := ⟨fun k h => (by cases h), fun k h => (by cases h), N8.out, U8.out.mono fun k _ h => h.elim (fun h => .inl (.inl h)) fun h => .inr (.inr h)⟩
            refine ⟨by rw [HW.out, hw]; rfl, none, none, os8, ?_, ST4.out.trans ST8⟩
            rw [HW.out, hw]
            exact HN4.out.next ST8 W8.out (HN4.out.dv.upd U8.out fun k hk h => h.elim (fun h => HN4.out.ap.wd k (.inl h) hk) fun h => HN4.out.ap.ds k hk h) S8.out
        · have b1 : ((B : Int) == 0) = false := beq_eq_false_iff_ne.mpr (by omega)
          have HWA : Hid (wAlloc n W' F' = some (W', F')) := hid (by
            unfold wAlloc
            rw [if_neg]
            intro h
            have := HB.out
            rw [h] at this
            exact hb0 this)
          go_wp2_with fail
          go_meet
          case rel => exact ⟨rfl, W', F', o1', os1, HWA, H', HST⟩
      case rest =>
        clear k1 k3
        obtain ⟨rfl, W1, F1, o2', os2, HWA, H1, ST1⟩ := hcut
        have hne : l' ≠ [] := fun h => hL0.out (by rw [HL'.out, h]; rfl)
        obtain ⟨bq, off, rfl, hbq, hbs, hby⟩ := HC'.out.2 hne
        have hLc : L' ≤ c' := by rw [HL'.out]; exact HC'.out.1
        obtain ⟨m, hm⟩ : ∃ m, L' = m + 1 := ⟨L' - 1, by have := hL0.out; omega⟩
        obtain ⟨g1, g2, g3, g4, g5, g6⟩ := wAlloc_keep HWA.out (by have := HI'.out; rw [hm] at this; exact this)
        obtain ⟨e1, e2, e3, e4, e5⟩ := wAlloc_buf HWA.out
        have hkp := wK_pos (W := W1) hne (by rw [g2]; exact g3)
        have htl := wTake_len (W := W1) (l := l')
        obtain ⟨K, hK⟩ : ∃ K, K = wK W1 l' := ⟨_, rfl⟩
        obtain ⟨R, hR⟩ : ∃ R, R = U - B := ⟨_, rfl⟩
        have hBW : B = W1.buf.length := by rw [HB.out, e1]
        rw [← hK, ← hBW, g2, ← HL'.out] at hkp
        rw [← hBW, ← hK] at htl
        rw [← hBW] at g3
        have hKm : K = min L' R := by rw [hK, hR, hBW, ← g2, HL'.out]; rfl
        have hUN := HUN.out
        have hw1 : IntKind.i64.wrap ((U : Int) - (B : Int)) = (R : Int) := by
          rw [show (U : Int) - (B : Int) = (R : Int) by omega]
          exact wrap_id (by omega) (by omega)
        have HRR : Hid (K = min L' R ∧ R = U - B) := hid ⟨hKm, hR⟩
        have hmin : (if R < L' then (R : Int) else (L' : Int)) = (K : Int) := by split <;> omega
        obtain ⟨sz, hsz⟩ : ∃ sz, sz = W1.size := ⟨_, rfl⟩
        have hws : IntKind.i64.wrap (sz + (K : Int)) = sz + (K : Int) := wrap_id (by omega) (by omega)
        have hltk : (l'.take K).length = K := by rw [List.length_take, ← HL'.out]; omega
        have HLTK := hid hltk
        have HBB := hid (show W1.buf.length + K ≤ 1000000 by omega)
        have HK := hid (And.intro hK (And.intro hBW (And.intro htl (And.intro hkp (And.intro g1 (And.intro g2 (And.intro g3 (And.intro g4 (And.intro g5 (And.intro g6 hm))))))))))
        have HSZ := hid hsz
        have c2 : wc.cell? ⟨p, 2, none⟩ = some (.int .i64 (U : Int)) := by
          obtain ⟨v, v0, f1, f2, h1, h2, h3⟩ := H1.out.wt.ex
          exact (blk_cell h1 2).trans (by rw [← g2]; rfl)
        obtain ⟨a3, c3, k3⟩ : ∃ a3 c3, wc.cell? ⟨p, 3, none⟩ = some (.slice a3 B c3) := by
          obtain ⟨v, v0, f1, f2, h1, h2, h3⟩ := H1.out.wt.ex
          obtain ⟨a3, c3, e⟩ := own_slc h2
          exact ⟨a3, c3, (blk_cell h1 3).trans (by rw [e, hBW]; rfl)⟩
        have HNE := hid hne
        have hK0 : (0 : Int) ≤ (K : Int) := by omega
        have hKc : (K : Int) ≤ (c' : Int) := by omega
        have hKL : (K : Int) ≤ (L' : Int) := by omega
        have HCC := hid (And.intro hbq (And.intro hbs (And.intro hby hLc)))
        clear hK hBW htl hkp g1 g2 g3 g4 g5 g6 hm e1 e2 e3 e4 e5 hKm hR hUN hsz hne hltk hbq hbs hby hLc
        go_upto_region 10 with fail
        go_still (by kernel_rfl)
        generalize hwd : ({ heap := wc.heap, tape := wc.tape, drawn := wc.drawn + 1, os := wc.os, output := wc.output } : World) = wd
        have hwd' : wc.drew = wd := hwd
        have k3 : wd.cell? ⟨p, 3, none⟩ = some (.slice a3 B c3) := by rw [← hwd']; exact k3
        have hbd : Below wc.heap.size wc wd := by rw [← hwd']; exact (Below.refl _ wc).drew
        have H2 := hid (H1.out.below hbd)
        have ST2 := hid (ST1.out.trans (WhStep.below hbd))
        clear hwd hwd' hbd c2
        have HBY : Hid (BytesAt wd bq off l') := hid (HCC.out.2.2.1.upd ST2.out.up HCC.out.1 HCC.out.2.1)
        obtain ⟨vb, v', w5, o2, hbr⟩ := bytes_run H2.out.wt 22 bq off K c' (l'.take K) HLTK.out (bytes_take HBY.out K) HBB.out
        obtain ⟨av, cv, hav⟩ := hbr.vs
        rw [← HK.out.2.1] at hav
        obtain ⟨N, hN⟩ : ∃ N, N = B + K := ⟨_, rfl⟩
        rw [← hN] at hav
        subst hav
        have HN := hid hN
        clear hN
        have hvb : vb = .slice a3 B c3 := Option.some.inj (hbr.c0.symm.trans k3)
        subst hvb
        have BR := hid hbr
        have hrun := hbr.run
        have d3 := hbr.fr
        have d4 := hbr.c1
        clear hbr
        go_upto_region 11 with fail
        go_region_law (refine step_append_run rfl (.tmp 65) (.tmp 68) 22 22 rfl _ _ rfl rfl hrun ?_)
        have ST6 : Hid (WhStep wd (w5.setCell ⟨p, 3, none⟩ (.slice av N cv)) p s d o1 o2' os2 o2 o2' os2) := hid ⟨BR.out.hr, Heir.refl _ _, Heir.refl _ _, BR.out.up.mono fun k _ h => .inl h⟩
        have H6 := hid (H2.out.next ST6.out BR.out.wt (H2.out.dv.upd BR.out.up fun k hk h => H2.out.ap.wd k h hk) (H2.out.sp.upd BR.out.up (fun h => H2.out.ap.ws s h (.inl rfl)) fun k hk h => H2.out.ap.ws k h (.inr hk)))
        obtain ⟨w6, hw6⟩ : ∃ w6, w5.setCell ⟨p, 3, none⟩ (.slice av N cv) = w6 := ⟨_, rfl⟩
        rw [hw6] at ST6 H6 ⊢
        clear hw6 hrun d3 d4 k3
        have e5 : w6.cell? ⟨p, 5, none⟩ = some (.int .i64 sz) := by
          obtain ⟨v, v0, f1, f2, h1, h2, h3⟩ := H6.out.wt.ex
          exact (blk_cell h1 5).trans (by rw [HSZ.out]; rfl)
        have x5 : w6.frozen? ⟨p, 5, none⟩ = false := by
          obtain ⟨v, v0, f1, f2, h1, h2, h3⟩ := H6.out.wt.ex
          exact blk_free h1 5
        go_upto_region 13 with fail
        clear e5 x5
        have ST7 : Hid (WhStep w6 (w6.setCell ⟨p, 5, none⟩ (.int .i64 (sz + (K : Int)))) p s d o2 o2' os2 o2 o2' os2) := hid ⟨Heir.refl _ _, Heir.refl _ _, Heir.refl _ _, (Upd.refl _ _).setCell (p := ⟨p, 5, none⟩) (fun _ => .inl (.inl rfl)) _⟩
        have UP7 := hid ((Upd.refl (fun k => k = p) w6).setCell (p := ⟨p, 5, none⟩) (fun _ => rfl) (.int .i64 (sz + (K : Int))))
        have H7 : Hid (Wh (w6.setCell ⟨p, 5, none⟩ (.int .i64 (sz + (K : Int)))) p s d o2 o2' os2 n F1 (wTake W1 l') D') := hid (by
          have q := H6.out.next ST7.out (wt_size H6.out.wt (sz + (K : Int))) (H6.out.dv.upd UP7.out fun k hk h => H6.out.ap.wd k (.inl h) hk) (H6.out.sp.upd UP7.out (fun h => H6.out.ap.ws s (.inl h) (.inl rfl)) fun k hk h => H6.out.ap.ws k (.inl h) (.inr hk))
          rw [HSZ.out, HK.out.1] at q
          rw [HSZ.out, HK.out.1]
          exact q)
        have ST8 := hid (ST2.out.trans (ST6.out.trans ST7.out))
        obtain ⟨w7, hw7⟩ : ∃ w7, w6.setCell ⟨p, 5, none⟩ (.int .i64 (sz + (K : Int))) = w7 := ⟨_, rfl⟩
        rw [hw7] at ST8 H7 ⊢
        clear hw7 UP7 ST7 ST6 H6 hws
        obtain ⟨a4, c4, e3⟩ : ∃ a4 c4, w7.cell? ⟨p, 3, none⟩ = some (.slice a4 N c4) := by
          obtain ⟨v, v0, f1, f2, h1, h2, h3⟩ := H7.out.wt.ex
          obtain ⟨a3, c3, e⟩ := own_slc h2
          exact ⟨a3, c3, (blk_cell h1 3).trans (by rw [e, HK.out.2.2.1, ← HN.out]; rfl)⟩
        have e2 : w7.cell? ⟨p, 2, none⟩ = some (.int .i64 (U : Int)) := by
          obtain ⟨v, v0, f1, f2, h1, h2, h3⟩ := H7.out.wt.ex
          exact (blk_cell h1 2).trans (by rw [← HK.out.2.2.2.2.2.1]; rfl)
        obtain ⟨L2, hL2⟩ : ∃ L2, L2 = L' - K := ⟨_, rfl⟩
        have HL2 := hid hL2
        by_cases hcK : K = c'
        · have HKC := hid hcK
          have hcK0 : c' - K = 0 := by omega
          subst hcK
          go_upto_region 14 with fail
          have HSRC : Hid (Src w p s d o o' os (some ⟨bq, off, none⟩) (0) (l'.drop K)) := hid ⟨by rw [List.length_drop, ← HL'.out]; have := HCC.out.2.2.2; omega, fun hn => absurd (List.length_pos_iff.2 hn) (by rw [List.length_drop, ← HL'.out]; have := HCC.out.2.2.2; omega)⟩
          go_still (by kernel_rfl)
          generalize hwd : ({ heap := w7.heap, tape := w7.tape, drawn := w7.drawn + 1, os := w7.os, output := w7.output } : World) = w8
          have hwd' : w7.drew = w8 := hwd
          have hbd : Below w7.heap.size w7 w8 := by rw [← hwd']; exact (Below.refl _ w7).drew
          have H8 := hid (H7.out.below hbd)
          have ST9 := hid (ST8.out.trans (WhStep.below hbd))
          clear hwd hwd' hbd e2 e3
          by_cases hf : N = U
          · have HFU := hid hf
            have b1 : ((N : Int) == (U : Int)) = true := by rw [hf]; exact beq_self_eq_true _
            have HFL := hid (flush_any H8.out.wt H8.out.dv H8.out.sp H8.out.ap (by rw [HK.out.2.2.1, ← HN.out, HU'.out]; exact hf) HK.out.2.2.2.2.1 (by show W1.blocks.length ≤ 1000000; have := HK.out.2.2.2.2.2.2.2.1; omega))
            clear hf
            go_upto_region 16 with (go_at_call 36; refine HFL.out.mono ?_; rintro e w9 ⟨b, o3, o3', os3, hlast, rfl, hdv, hor, hh1, hh2, hh3, hup⟩)
            obtain ⟨r, hr⟩ : ∃ r, r = (D'.write b (wTake W1 l').buf).1 := ⟨_, rfl⟩
            rw [← hr] at hor ⊢
            have HSTF : Hid (WhStep w8 w9 p s d o2 o2' os2 o3 o3' os3) := hid ⟨hh1, hh2, hh3, hup⟩
            have HFF : Hid (wFlush n (wTake W1 l') D' F1 = if r = 0 then (0, { wTake W1 l' with buf := [] }, (D'.write b (wTake W1 l').buf).2, F1) else (r, (wTake W1 l').spoil r, (D'.write b (wTake W1 l').buf).2, freeAll n F1 (wTake W1 l').blocks)) := hid (by
              unfold wFlush
              rw [hlast, hr])
            have HDV := hid hdv
            have HOR := hid hor
            clear hlast hdv hor hh1 hh2 hh3 hup hr
            have ST10 := hid (ST9.out.trans HSTF.out)
            by_cases hr0 : r = 0
            · subst hr0
              have HOK : Hid (WtM w9 p d.g s o3 o3' { wTake W1 l' with buf := [] } ∧ SpF w9 s os3 n F1) := hid (by
                rcases HOR.out with h | h
                · exact h.2
                · exact absurd rfl h.1)
              have H9 := hid (H8.out.next HSTF.out HOK.out.1 HDV.out HOK.out.2)
              have HE : Hid (wWrite n W D F l = wWrite n { wTake W1 l' with buf := [] } (D'.write b (wTake W1 l').buf).2 F1 (l'.drop K)) := hid (by
                have q := HFF.out
                rw [if_pos rfl] at q
                have hfu : (wTake W1 l').buf.length = W1.unit := by rw [HK.out.2.2.1, ← HN.out, HFU.out, HK.out.2.2.2.2.2.1]
                have hW'u : W'.buf.length < W'.unit := by rw [HI'.out.u]; exact HI'.out.bu
                rw [HW.out, wWrite_full HNE.out HWA.out hW'u HK.out.2.2.2.2.1 hfu (by rw [q]), q, ← HK.out.1])
              go_wp2_with fail
              go_roundg (L' - K)
              case measure => have := HK.out.2.2.2.1.1; omega
              case rel => exact ⟨_, _, F1, o3, o3', os3, l'.drop K, L' - K, _, _, rfl, rfl, hid (by rw [List.length_drop, ← HL'.out]), H9, ST10, HSRC, hid ⟨HK.out.2.2.2.2.2.1, by have := HK.out.2.2.2.2.2.2.1; show 0 < U; omega, fun h => absurd rfl h, by show W1.blocks.length + (L' - K) ≤ 1000000; obtain ⟨_, _, _, x1, _, _, _, x2, _, _, x3⟩ := HK.out; omega, by show 0 ≤ W1.size + (wK W1 l' : Nat); have := HK.out.2.2.2.2.2.2.2.2.1; omega, by show W1.size + (wK W1 l' : Nat) + ((L' - K : Nat) : Int) ≤ 1000000000000; obtain ⟨x0, _, _, x1, _, _, _, x2, _, x4, x3⟩ := HK.out; rw [← x0]; omega⟩, hid (by rw [write_unit]; exact HU'.out), HE⟩
            · have b2 : (r == 0) = false := beq_eq_false_iff_ne.mpr hr0
              have b3 : decide (r = 0) = false := decide_eq_false hr0
              have HOK : Hid (WtM w9 p d.g s o3 o3' ((wTake W1 l').spoil r) ∧ SpF w9 s os3 n (freeAll n F1 (wTake W1 l').blocks)) := hid (by
                rcases HOR.out with h | h
                · exact absurd h.1 hr0
                · exact h.2)
              have H9 := hid (H8.out.next HSTF.out HOK.out.1 HDV.out HOK.out.2)
              have HE : Hid (wWrite n W D F l = (r, (wTake W1 l').spoil r, (D'.write b (wTake W1 l').buf).2, freeAll n F1 (wTake W1 l').blocks)) := hid (by
                have q := HFF.out
                rw [if_neg hr0] at q
                have hfu : (wTake W1 l').buf.length = W1.unit := by rw [HK.out.2.2.1, ← HN.out, HFU.out, HK.out.2.2.2.2.2.1]
                rw [HW.out, wWrite_bad HNE.out HWA.out hfu (by rw [q]; exact hr0), q])
              go_wp2_with fail
              go_ret
              exact ⟨by rw [HE.out]; rfl, o3, o3', os3, by rw [HE.out]; exact H9.out, ST10.out⟩
          · have b1 : ((N : Int) == (U : Int)) = false := beq_eq_false_iff_ne.mpr (by omega)
            have HE : Hid (wWrite n W D F l = wWrite n (wTake W1 l') D' F1 (l'.drop K)) := hid (by
              have hfu : (wTake W1 l').buf.length ≠ W1.unit := by rw [HK.out.2.2.1, ← HN.out, HK.out.2.2.2.2.2.1]; exact hf
              have hW'u : W'.buf.length < W'.unit := by rw [HI'.out.u]; exact HI'.out.bu
              rw [HW.out, wWrite_part HNE.out HWA.out hW'u HK.out.2.2.2.2.1 hfu, ← HK.out.1])
            have HNU := hid hf
            clear hf
            go_wp2_with fail
            go_roundg (L' - K)
            case measure => have := HK.out.2.2.2.1.1; omega
            case rel => exact ⟨_, _, F1, o2, o2', os2, l'.drop K, L' - K, _, _, rfl, rfl, hid (by rw [List.length_drop, ← HL'.out]), H8, ST9, HSRC, hid ⟨HK.out.2.2.2.2.2.1, by rw [HK.out.2.2.1, ← HN.out]; have := HNU.out; obtain ⟨_, _, _, x1, _, _, x3, _⟩ := HK.out; have := HN.out; have := HRR.out; omega, fun _ => HK.out.2.2.2.2.1, by show W1.blocks.length + (L' - K) ≤ 1000000; obtain ⟨_, _, _, x1, _, _, _, x2, _, _, x3⟩ := HK.out; omega, by show 0 ≤ W1.size + (wK W1 l' : Nat); have := HK.out.2.2.2.2.2.2.2.2.1; omega, by show W1.size + (wK W1 l' : Nat) + ((L' - K : Nat) : Int) ≤ 1000000000000; obtain ⟨x0, _, _, x1, _, _, _, x2, _, x4, x3⟩ := HK.out; rw [← x0]; omega⟩, HU', HE⟩
        · have hcK' : ¬ c' = K := fun e => hcK e.symm
          go_upto_region 14 with fail
          clear hcK hcK'
          have HSRC : Hid (Src w p s d o o' os (some ⟨bq, off + K, none⟩) (c' - K) (l'.drop K)) := hid ⟨by rw [List.length_drop, ← HL'.out]; have := HCC.out.2.2.2; omega, fun hn => ⟨bq, off + K, rfl, HCC.out.1, HCC.out.2.1, bytes_drop HCC.out.2.2.1 K⟩⟩
          go_still (by kernel_rfl)
          generalize hwd : ({ heap := w7.heap, tape := w7.tape, drawn := w7.drawn + 1, os := w7.os, output := w7.output } : World) = w8
          have hwd' : w7.drew = w8 := hwd
          have hbd : Below w7.heap.size w7 w8 := by rw [← hwd']; exact (Below.refl _ w7).drew
          have H8 := hid (H7.out.below hbd)
          have ST9 := hid (ST8.out.trans (WhStep.below hbd))
          clear hwd hwd' hbd e2 e3
          by_cases hf : N = U
          · have HFU := hid hf
            have b1 : ((N : Int) == (U : Int)) = true := by rw [hf]; exact beq_self_eq_true _
            have HFL := hid (flush_any H8.out.wt H8.out.dv H8.out.sp H8.out.ap (by rw [HK.out.2.2.1, ← HN.out, HU'.out]; exact hf) HK.out.2.2.2.2.1 (by show W1.blocks.length ≤ 1000000; have := HK.out.2.2.2.2.2.2.2.1; omega))
            clear hf
            go_upto_region 16 with (go_at_call 36; refine HFL.out.mono ?_; rintro e w9 ⟨b, o3, o3', os3, hlast, rfl, hdv, hor, hh1, hh2, hh3, hup⟩)
            obtain ⟨r, hr⟩ : ∃ r, r = (D'.write b (wTake W1 l').buf).1 := ⟨_, rfl⟩
            rw [← hr] at hor ⊢
            have HSTF : Hid (WhStep w8 w9 p s d o2 o2' os2 o3 o3' os3) := hid ⟨hh1, hh2, hh3, hup⟩
            have HFF : Hid (wFlush n (wTake W1 l') D' F1 = if r = 0 then (0, { wTake W1 l' with buf := [] }, (D'.write b (wTake W1 l').buf).2, F1) else (r, (wTake W1 l').spoil r, (D'.write b (wTake W1 l').buf).2, freeAll n F1 (wTake W1 l').blocks)) := hid (by
              unfold wFlush
              rw [hlast, hr])
            have HDV := hid hdv
            have HOR := hid hor
            clear hlast hdv hor hh1 hh2 hh3 hup hr
            have ST10 := hid (ST9.out.trans HSTF.out)
            by_cases hr0 : r = 0
            · subst hr0
              have HOK : Hid (WtM w9 p d.g s o3 o3' { wTake W1 l' with buf := [] } ∧ SpF w9 s os3 n F1) := hid (by
                rcases HOR.out with h | h
                · exact h.2
                · exact absurd rfl h.1)
              have H9 := hid (H8.out.next HSTF.out HOK.out.1 HDV.out HOK.out.2)
              have HE : Hid (wWrite n W D F l = wWrite n { wTake W1 l' with buf := [] } (D'.write b (wTake W1 l').buf).2 F1 (l'.drop K)) := hid (by
                have q := HFF.out
                rw [if_pos rfl] at q
                have hfu : (wTake W1 l').buf.length = W1.unit := by rw [HK.out.2.2.1, ← HN.out, HFU.out, HK.out.2.2.2.2.2.1]
                have hW'u : W'.buf.length < W'.unit := by rw [HI'.out.u]; exact HI'.out.bu
                rw [HW.out, wWrite_full HNE.out HWA.out hW'u HK.out.2.2.2.2.1 hfu (by rw [q]), q, ← HK.out.1])
              go_wp2_with fail
              go_roundg (L' - K)
              case measure => have := HK.out.2.2.2.1.1; omega
              case rel => exact ⟨_, _, F1, o3, o3', os3, l'.drop K, L' - K, _, _, rfl, rfl, hid (by rw [List.length_drop, ← HL'.out]), H9, ST10, HSRC, hid ⟨HK.out.2.2.2.2.2.1, by have := HK.out.2.2.2.2.2.2.1; show 0 < U; omega, fun h => absurd rfl h, by show W1.blocks.length + (L' - K) ≤ 1000000; obtain ⟨_, _, _, x1, _, _, _, x2, _, _, x3⟩ := HK.out; omega, by show 0 ≤ W1.size + (wK W1 l' : Nat); have := HK.out.2.2.2.2.2.2.2.2.1; omega, by show W1.size + (wK W1 l' : Nat) + ((L' - K : Nat) : Int) ≤ 1000000000000; obtain ⟨x0, _, _, x1, _, _, _, x2, _, x4, x3⟩ := HK.out; rw [← x0]; omega⟩, hid (by rw [write_unit]; exact HU'.out), HE⟩
            · have b2 : (r == 0) = false := beq_eq_false_iff_ne.mpr hr0
              have b3 : decide (r = 0) = false := decide_eq_false hr0
              have HOK : Hid (WtM w9 p d.g s o3 o3' ((wTake W1 l').spoil r) ∧ SpF w9 s os3 n (freeAll n F1 (wTake W1 l').blocks)) := hid (by
                rcases HOR.out with h | h
                · exact absurd h.1 hr0
                · exact h.2)
              have H9 := hid (H8.out.next HSTF.out HOK.out.1 HDV.out HOK.out.2)
              have HE : Hid (wWrite n W D F l = (r, (wTake W1 l').spoil r, (D'.write b (wTake W1 l').buf).2, freeAll n F1 (wTake W1 l').blocks)) := hid (by
                have q := HFF.out
                rw [if_neg hr0] at q
                have hfu : (wTake W1 l').buf.length = W1.unit := by rw [HK.out.2.2.1, ← HN.out, HFU.out, HK.out.2.2.2.2.2.1]
                rw [HW.out, wWrite_bad HNE.out HWA.out hfu (by rw [q]; exact hr0), q])
              go_wp2_with fail
              go_ret
              exact ⟨by rw [HE.out]; rfl, o3, o3', os3, by rw [HE.out]; exact H9.out, ST10.out⟩
          · have b1 : ((N : Int) == (U : Int)) = false := beq_eq_false_iff_ne.mpr (by omega)
            have HE : Hid (wWrite n W D F l = wWrite n (wTake W1 l') D' F1 (l'.drop K)) := hid (by
              have hfu : (wTake W1 l').buf.length ≠ W1.unit := by rw [HK.out.2.2.1, ← HN.out, HK.out.2.2.2.2.2.1]; exact hf
              have hW'u : W'.buf.length < W'.unit := by rw [HI'.out.u]; exact HI'.out.bu
              rw [HW.out, wWrite_part HNE.out HWA.out hW'u HK.out.2.2.2.2.1 hfu, ← HK.out.1])
            have HNU := hid hf
            clear hf
            go_wp2_with fail
            go_roundg (L' - K)
            case measure => have := HK.out.2.2.2.1.1; omega
            case rel => exact ⟨_, _, F1, o2, o2', os2, l'.drop K, L' - K, _, _, rfl, rfl, hid (by rw [List.length_drop, ← HL'.out]), H8, ST9, HSRC, hid ⟨HK.out.2.2.2.2.2.1, by rw [HK.out.2.2.1, ← HN.out]; have := HNU.out; obtain ⟨_, _, _, x1, _, _, x3, _⟩ := HK.out; have := HN.out; have := HRR.out; omega, fun _ => HK.out.2.2.2.2.1, by show W1.blocks.length + (L' - K) ≤ 1000000; obtain ⟨_, _, _, x1, _, _, _, x2, _, _, x3⟩ := HK.out; omega, by show 0 ≤ W1.size + (wK W1 l' : Nat); have := HK.out.2.2.2.2.2.2.2.2.1; omega, by show W1.size + (wK W1 l' : Nat) + ((L' - K : Nat) : Int) ≤ 1000000000000; obtain ⟨x0, _, _, x1, _, _, _, x2, _, x4, x3⟩ := HK.out; rw [← x0]; omega⟩, HU', HE⟩
end Go.Proofs.Ytkhejipcclpknaa
