/- A new device, with faults and without an image. No statement is proved here. -/
import Derived.Test.YtkhejipcclpknaaUJ
set_option linter.unusedVariables false
set_option linter.unusedSimpArgs false
namespace Go.Proofs.Ytkhejipcclpknaa
open Go.RowKit

theorem own_ltB {w : World} {B : Nat} {e : TypeId} {size : Nat} {v : Value} {n : Nat} {xs : List Value} (h : w.ownsRow B e size v n xs) : ∀ k, v.ownBlock = some k → k < w.heap.size := fun k hk => by
  rcases h.2 with ⟨rfl, _⟩ | ⟨g, cap, cur, rfl, _, hg, _⟩
  · cases hk
  · cases hk
    exact blk_lt hg
def DevNew2 (w : World) (U S : Nat) (l : List Int) (fs : List Fl) (e : Ending) (w' : World) : Prop := ∃ d, e = .returned (.tuple #[.pointer (some ⟨d.g, 0, none⟩), .int .i64 0]) ∧ DvM w' d ⟨U, S, l, List.replicate (U * S) 0, fs, fun _ _ => 0, 0, 0, 0, 0, false⟩ ∧ Below w.heap.size w w' ∧ ∀ k, d.S k → w.heap.size ≤ k
set_option maxHeartbeats 8000000 in
set_option maxRecDepth 100000 in
theorem new_faults {w : World} {a : Option Addr} {l : List Int} {fb : Nat} {fs : List Fl} (U S : Nat) (hU0 : 16 ≤ U) (hU1 : U ≤ 1024) (hS : S ≤ 4096) (hl : l.length ≤ 4194304) (hin : BytesIn w a l) (c : Nat) (hfa : FlAt w fb fs) (hne : fs ≠ []) (hfl : fs.length ≤ 64) (hfr : ∀ f ∈ fs, f.right U) (cf : Nat) :
    Calls Try.prog 11 #[.agg #[.int .i64 U, .int .i64 S], .slice a l.length c, .slice none 0 0, .slice (some ⟨fb, 0, none⟩) fs.length cf] w (DevNew2 w U S l fs) := by
  obtain ⟨L, hL⟩ : ∃ L, L = l.length := ⟨_, rfl⟩
  have hUS : U * S ≤ 4194304 := Nat.le_trans (Nat.mul_le_mul hU1 hS) (by omega)
  obtain ⟨T, hT⟩ : ∃ T, T = U * S := ⟨_, rfl⟩
  have hm1 : (U : Int) * (S : Int) = (T : Int) := by rw [hT, Int.natCast_mul]
  have hw1 : IntKind.i64.wrap (T : Int) = (T : Int) := wrap_id (by omega) (by omega)
  have hw2 : ¬ (T : Int) < 0 := by omega
  have hal0 := (Below.refl _ w).alloc (Nat.le_refl _) (.cells #[.int .i64 U, .int .i64 S] 29)
  obtain ⟨w1, hw⟩ : ∃ w1, w.alloc (.cells #[.int .i64 U, .int .i64 S] 29) = w1 := ⟨_, rfl⟩
  obtain ⟨tb, htb⟩ : ∃ tb, tb = w.heap.size := ⟨_, rfl⟩
  have T1 : w1.heap[tb]? = some (.cells #[.int .i64 U, .int .i64 S] 29 (0, 0)) := by rw [← hw, htb]; exact heap_alloc_new w _
  rw [hw] at hal0
  have HI1 := hin.below hal0
  obtain ⟨n, hn⟩ : ∃ n, n = fs.length := ⟨_, rfl⟩
  have HNN := hid hn
  have HFL := hid (show n ≤ 64 by omega)
  have HFK := hid (show ∀ f ∈ fs, 0 ≤ f.keep ∧ f.keep ≤ U from fun f hf => ⟨(hfr f hf).2.2.2.2.2.2.1, (hfr f hf).2.2.2.2.2.2.2⟩)
  have HFR := hid hfr
  have HFA := hid (hfa.late hfa.1 hal0)
  have HFB := hid (show fb < w1.heap.size from Nat.lt_of_lt_of_le hfa.1 hal0.size)
  have HCL1 := hid (fun (W : World) (h : FlAt W fb fs) => (hn ▸ clone_any h hne hfl cf : Calls Try.prog _ #[.slice (some ⟨fb, 0, none⟩) n cf] W (ClonePost W fs)))
  rw [← hn, ← hL]
  have HT := hid hT
  have HLL := hid hL
  have HTB := hid htb
  have HW := hid hw
  have HAL := hid hal0
  have HTL := hid T1
  have HL4 := hid hl
  have HIN1 := hid HI1
  have HUS := hid (show T ≤ 4194304 by omega)
  have HUU := hid (And.intro hU0 (And.intro hU1 hS))
  have hLb : ¬ (4194304 : Int) < (L : Int) := by omega
  have hn64 : ¬ (64 : Int) < (n : Int) := by omega
  have x0 : w1.cell? ⟨tb, 0, none⟩ = some (.int .i64 U) := (blk_cell T1 0).trans rfl
  have x1 : w1.cell? ⟨tb, 1, none⟩ = some (.int .i64 S) := (blk_cell T1 1).trans rfl
  clear hT hL htb hw hal0 T1 hl HI1 hUS hfa hne hfl hfr hn hin
  go_enter Try.func11, Try.ntmps11
  go_upto_region 1 with fail
  rw [HW.out]
  rw [← HTB.out]
  go_upto_region 15 with fail
  go_loopg [51] n (fun gh s51 wr => ∃ i : Nat, n - i = gh ∧ i ≤ n ∧ s51 = .int .i64 (i : Int) ∧ Hid (Below w1.heap.size w1 wr))
  case atStart => exact ⟨0, rfl, Nat.zero_le _, rfl, hid (Below.refl _ _)⟩
  case round =>
    clear x0 x1
    obtain ⟨i, rfl, hi, rfl, HBR⟩ := hrel
    have TR := hid ((HBR.out.block tb (blk_lt HTL.out)).trans HTL.out)
    by_cases hil : i < n
    · have hil' : i < fs.length := by have := HNN.out; omega
      have hx : ∀ j u, j < 4 → (fs[i]).cs[j]? = some u → wr.cell? ⟨fb, i * 4 + j, none⟩ = some u := fun j u hj hu => (HFA.out.late HFB.out HBR.out).2 (i * 4 + j) u ((cellsF_get fs i j hil' hj).trans hu)
      have hfr := HFR.out (fs[i]) (List.getElem_mem hil')
      generalize fs[i] = x at *
      obtain ⟨xk, xb, xn, xp⟩ := x
      have y0 : wr.cell? ⟨fb, i * 4, none⟩ = some (.int .i64 xk) := hx 0 _ (by omega) rfl
      have y1 : wr.cell? ⟨fb, i * 4 + 1, none⟩ = some (.int .i64 xb) := hx 1 _ (by omega) rfl
      have y2 : wr.cell? ⟨fb, i * 4 + 2, none⟩ = some (.int .i64 xn) := hx 2 _ (by omega) rfl
      have y3 : wr.cell? ⟨fb, i * 4 + 3, none⟩ = some (.int .i64 xp) := hx 3 _ (by omega) rfl
      have hpI : (i : Int) < (n : Int) := by omega
      have hp63 : (i : Int) + 1 ≤ 9223372036854775807 := by have := HFL.out; omega
      have hal := (Below.refl _ wr).alloc (Nat.le_refl _) (.cells #[.int .i64 xk, .int .i64 xb, .int .i64 xn, .int .i64 xp] 60)
      have X4 := heap_alloc_new wr (.cells #[.int .i64 xk, .int .i64 xb, .int .i64 xn, .int .i64 xp] 60)
      have HIL := hid hil
      clear hx hil hil' hi
      go_upto_region 12 with fail
      clear y0 y1 y2 y3
      obtain ⟨w4, hw4⟩ : ∃ w4, wr.alloc (.cells #[.int .i64 xk, .int .i64 xb, .int .i64 xn, .int .i64 xp] 60) = w4 := ⟨_, rfl⟩
      obtain ⟨bx, hbx⟩ : ∃ bx, bx = wr.heap.size := ⟨_, rfl⟩
      rw [hw4] at hal X4
      rw [← hbx] at X4
      rw [hw4, ← hbx]
      have y0 : w4.cell? ⟨bx, 0, none⟩ = some (.int .i64 xk) := (blk_cell X4 0).trans rfl
      have y1 : w4.cell? ⟨bx, 1, none⟩ = some (.int .i64 xb) := (blk_cell X4 1).trans rfl
      have y2 : w4.cell? ⟨bx, 2, none⟩ = some (.int .i64 xn) := (blk_cell X4 2).trans rfl
      have y3 : w4.cell? ⟨bx, 3, none⟩ = some (.int .i64 xp) := (blk_cell X4 3).trans rfl
      have T4 := (hal.block tb (blk_lt TR.out)).trans TR.out
      have z0 : w4.cell? ⟨tb, 0, none⟩ = some (.int .i64 U) := (blk_cell T4 0).trans rfl
      have z1 : w4.cell? ⟨tb, 1, none⟩ = some (.int .i64 S) := (blk_cell T4 1).trans rfl
      have HRF := hid (rightFault_yes w4 ⟨xk, xb, xn, xp⟩ U S hfr)
      have HB4 := hid (HBR.out.trans (hal.mono HBR.out.size))
      clear hw4 hbx hal X4 T4 hfr
      go_wp2_with (go_at_call 30; refine HRF.out.mono ?_; rintro e w5 ⟨rfl, hb5⟩)
      go_roundg (n - (i + 1))
      case measure => have := HIL.out; omega
      case rel => exact ⟨i + 1, rfl, HIL.out, by go_num, hid (HB4.out.trans (hb5.mono HB4.out.size))⟩
    · have hie : ¬ (i : Int) < (n : Int) := by omega
      have HIR := hid (HIN1.out.below HBR.out)
      have HALR := hid (HAL.out.trans (HBR.out.mono HAL.out.size))
      have hcl : ∀ W : World, Below wr.heap.size wr W → Calls Try.prog 31 #[.slice (some ⟨fb, 0, none⟩) n cf] W (fun (e : Ending) (w' : World) => ∃ g c, e = .returned (.slice (some ⟨g, 0, none⟩) n c) ∧ w'.ownsRow 0 60 4 (.slice (some ⟨g, 0, none⟩) n c) n (cellsF fs) ∧ wr.heap.size ≤ g ∧ Below W.heap.size W w' ∧ Below wr.heap.size wr w') := fun W hb => (HCL1.out W (HFA.out.late HFB.out (HBR.out.trans (hb.mono HBR.out.size)))).mono fun e w' h => by
        obtain ⟨g, c, h1, h2, h3, h4⟩ := h
        exact ⟨g, c, by rw [h1, HNN.out], by rw [HNN.out]; exact h2, Nat.le_trans hb.size h3, h4, hb.trans (h4.mono hb.size)⟩
      have HCL := hid hcl
      clear hcl
      clear hi hil HCL1
      obtain ⟨q, hq⟩ : ∃ q, q = wr.heap.size := ⟨_, rfl⟩
      have b1 := ((Below.refl _ wr).alloc (Nat.le_refl _) (.cells #[] 5)).drew
      have b2 := (((Below.refl _ wr).alloc (Nat.le_refl _) (.cells #[] 5)).alloc (Nat.le_trans (Nat.le_refl _) ((Below.refl _ wr).alloc (Nat.le_refl _) (.cells #[] 5)).size) (.map #[] 0)).drew
      have b3 := (((Below.refl _ wr).alloc (Nat.le_refl _) (.map #[] 0)).alloc (Nat.le_trans (Nat.le_refl _) ((Below.refl _ wr).alloc (Nat.le_refl _) (.map #[] 0)).size) (.cells #[] 5)).drew
      have q1 : (wr.alloc (.cells #[] 5)).drew.heap[q]? = some (.cells #[] 5 (0, 0)) := by rw [hq]; exact heap_alloc_new wr _
      have q2 : ((wr.alloc (.cells #[] 5)).alloc (.map #[] 0)).drew.heap[q]? = some (.cells #[] 5 (0, 0)) := by
        show ((wr.alloc (.cells #[] 5)).alloc (.map #[] 0)).heap[q]? = _
        rw [Below.heap_alloc _ _ q (by rw [hq]; simp)]
        exact q1
      have q3 : ((wr.alloc (.map #[] 0)).alloc (.cells #[] 5)).drew.heap[q + 1]? = some (.cells #[] 5 (0, 0)) := by
        have := heap_alloc_new (wr.alloc (.map #[] 0)) (.cells #[] 5)
        rw [World.size_alloc, ← hq] at this
        exact this
      have m2 : ((wr.alloc (.cells #[] 5)).alloc (.map #[] 0)).drew.heap[q + 1]? = some (.map #[] 0) := by
        have := heap_alloc_new (wr.alloc (.cells #[] 5)) (.map #[] 0)
        rw [World.size_alloc, ← hq] at this
        exact this
      have m3 : ((wr.alloc (.map #[] 0)).alloc (.cells #[] 5)).drew.heap[q]? = some (.map #[] 0) := by
        show ((wr.alloc (.map #[] 0)).alloc (.cells #[] 5)).heap[q]? = _
        rw [Below.heap_alloc _ _ q (by rw [hq]; simp), hq]
        exact heap_alloc_new wr _
      obtain ⟨g1, c1, u1, r1, o1, k1, e1⟩ := app_onto q1 22 L c HLL.out.symm (HIR.out.below b1) (by have := HL4.out; have := HLL.out; omega) (fun _ _ _ _ => trivial)
      obtain ⟨g2, c2, u2, r2, o2, k2, e2⟩ := app_onto q2 22 L c HLL.out.symm (HIR.out.below b2) (by have := HL4.out; have := HLL.out; omega) (fun _ _ _ _ => trivial)
      obtain ⟨g3, c3, u3, r3, o3, k3, e3⟩ := app_onto q3 22 L c HLL.out.symm (HIR.out.below b3) (by have := HL4.out; have := HLL.out; omega) (fun _ _ _ _ => trivial)
      have x0 : wr.cell? ⟨tb, 0, none⟩ = some (.int .i64 U) := (blk_cell TR.out 0).trans rfl
      have x1 : wr.cell? ⟨tb, 1, none⟩ = some (.int .i64 S) := (blk_cell TR.out 1).trans rfl
      have htl : tb < wr.heap.size := blk_lt TR.out
      have tk : ∀ {W W' : World} {row : Option Nat}, Below wr.heap.size wr W → W.grownBy W' row → (∀ k, row = some k → wr.heap.size ≤ k) → Below wr.heap.size wr W' := fun h hg hr => h.grown hg h.size hr
      have B1 := tk b1 k1 (fun k e => by cases e; omega)
      have B2 := tk b2 k2 (fun k e => by cases e; omega)
      have B3 := tk b3 k3 (fun k e => by cases e; omega)
      have y10 := (B1.cell (p := ⟨tb, 0, none⟩) htl).trans x0
      have y11 := (B1.cell (p := ⟨tb, 1, none⟩) htl).trans x1
      have y20 := (B2.cell (p := ⟨tb, 0, none⟩) htl).trans x0
      have y21 := (B2.cell (p := ⟨tb, 1, none⟩) htl).trans x1
      have y30 := (B3.cell (p := ⟨tb, 0, none⟩) htl).trans x0
      have y31 := (B3.cell (p := ⟨tb, 1, none⟩) htl).trans x1
      have K1 := hid k1
      have K2 := hid k2
      have K3 := hid k3
      have O1 := hid o1
      have O2 := hid o2
      have O3 := hid o3
      have E1 := hid e1
      have E2 := hid e2
      have E3 := hid e3
      have M2 := hid m2
      have M3 := hid m3
      have HB1 := hid B1
      have HB2 := hid B2
      have HB3 := hid B3
      have HQ := hid hq
      have HMK := hid (fun (u : World) => (show (Instr.makeSlice 22 (.int .i64 (T : Int)) (.int .i64 (T : Int))).run Try.prog u = .ok (.slice (some ⟨u.heap.size, 0, none⟩) T T) (u.alloc (.cells (madeCells #[.int .u8 0] T) 5)) by
        obtain ⟨ti, hi, hz0, hz1, hz2⟩ := info_parts infoB
        have h := run_make (P := Try.prog) u 22 5 ti _ Try.underlying22 hi hz0 .i64 .i64 (T : Int) (T : Int) (by have := HUS.out; omega) (by have := HUS.out; omega) (by rw [hz2]; have := HUS.out; omega) (by have := HUS.out; omega)
        rw [hz1] at h
        simpa [Value.cells] using h))
      rw [hq] at r1 r2 r3
      have R1 := hid (fun (W : World) (v : Value) (h : W = (wr.alloc (.cells #[] 5)).drew) (hv : v = .slice (some ⟨wr.heap.size, 0, none⟩) 0 0) => (show (Builtin.append_ #[22, 22] 22 #[v, .slice a L c]).run Try.prog W = .ok (.slice (some ⟨g1, 0, none⟩) L c1) u1 from by rw [h, hv]; exact r1))
      have R2 := hid (fun (W : World) (v : Value) (h : W = ((wr.alloc (.cells #[] 5)).alloc (.map #[] 0)).drew) (hv : v = .slice (some ⟨wr.heap.size, 0, none⟩) 0 0) => (show (Builtin.append_ #[22, 22] 22 #[v, .slice a L c]).run Try.prog W = .ok (.slice (some ⟨g2, 0, none⟩) L c2) u2 from by rw [h, hv]; exact r2))
      have R3 := hid (fun (W : World) (v : Value) (h : W = ((wr.alloc (.map #[] 0)).alloc (.cells #[] 5)).drew) (hv : v = .slice (some ⟨wr.heap.size + 1, 0, none⟩) 0 0) => (show (Builtin.append_ #[22, 22] 22 #[v, .slice a L c]).run Try.prog W = .ok (.slice (some ⟨g3, 0, none⟩) L c3) u3 from by rw [h, hv]; exact r3))
      clear r1 r2 r3
      clear k1 k2 k3 o1 o2 o3 e1 e2 e3 m2 m3 q1 q2 q3 b1 b2 b3 B1 B2 B3 tk hq
      have hmm := @run_makeMap Try.prog
      go_upto_region 15 with fail
      go_region_held3 (fun W' : World => W'.cell? ⟨tb, 0, none⟩ = some (.int .i64 U) ∧ W'.cell? ⟨tb, 1, none⟩ = some (.int .i64 S)) (go_keep) (first | (go_at_call 31; refine (HCL.out _ (by first | exact HB1.out | exact HB2.out | exact HB3.out | exact HB1.out.alloc HB1.out.size _)).mono ?_; rintro e wC ⟨fg, fc, rfl, hfo, hfg, hbC, hbB⟩; have HFO := hid hfo; have HFG := hid hfg; have HBC := hid hbC; have HBB := hid hbB; have yc0 : wC.cell? ⟨tb, 0, none⟩ = some (.int .i64 U) := (hbB.cell (p := ⟨tb, 0, none⟩) htl).trans x0; have yc1 : wC.cell? ⟨tb, 1, none⟩ = some (.int .i64 S) := (hbB.cell (p := ⟨tb, 1, none⟩) htl).trans x1; clear hfo hfg hbC hbB) | (refine step_append_run rfl (.tmp 61) (.tmp 62) 22 22 rfl _ _ rfl rfl (R1.out _ _ (by with_reducible rfl) (by rfl)) ?_) | (refine step_append_run rfl (.tmp 61) (.tmp 62) 22 22 rfl _ _ rfl rfl (R2.out _ _ (by with_reducible rfl) (by rfl)) ?_) | (refine step_append_run rfl (.tmp 61) (.tmp 62) 22 22 rfl _ _ rfl rfl (R3.out _ _ (by with_reducible rfl) (by rfl)) ?_))
      all_goals go_upto_region 16 with fail
      all_goals clear x0 x1 y10 y11 y20 y21 y30 y31 hmm htl yc0 yc1
      all_goals
        first
        | (obtain ⟨W, hW⟩ : ∃ W, (wC.alloc (.map #[] 0)).alloc (.cells #[.int .i64 U, .int .i64 S, .slice (some ⟨g1, 0, none⟩) L c1, .slice none 0 0, .slice (some ⟨fg, 0, none⟩) n fc, .map (some wC.heap.size), .int .i64 0, .int .i64 0, .int .i64 0, .int .i64 0, .bool false] 78) = W := ⟨_, rfl⟩
           obtain ⟨g, hg⟩ : ∃ g, g = wC.heap.size + 1 := ⟨_, rfl⟩
           obtain ⟨mb, hmb⟩ : ∃ mb, mb = wC.heap.size := ⟨_, rfl⟩
           have HG : Hid (W.heap[g]? = some (.cells #[.int .i64 U, .int .i64 S, .slice (some ⟨g1, 0, none⟩) L c1, .slice none 0 0, .slice (some ⟨fg, 0, none⟩) n fc, .map (some mb), .int .i64 0, .int .i64 0, .int .i64 0, .int .i64 0, .bool false] 78 (0, 0))) := hid (by rw [← hW, hg, hmb]; exact dev_at _ _ (by first | rfl | simp))
           have BW : Hid (Below wr.heap.size wr W) := hid (by rw [← hW]; exact (HBB.out.alloc HBB.out.size _).alloc (HBB.out.alloc HBB.out.size (.map #[] 0)).size _)
           have OI : Hid (W.ownsRow 0 5 1 (.slice (some ⟨g1, 0, none⟩) L c1) L (cellsB l)) := hid (by rw [← hW]; exact ((own_same (O1.out) fun k hk => HBC.out.block k (own_ltB (O1.out) k hk)).alloc _).alloc _)
           have OM : Hid (W.heap[mb]? = some (.map #[] 0)) := hid (by rw [← hW, hmb]; exact (Below.heap_alloc _ _ wC.heap.size (by simp)).trans (heap_alloc_new wC _))
           have OF : Hid (W.ownsRow 0 60 4 (.slice (some ⟨fg, 0, none⟩) n fc) n (cellsF fs)) := hid (by rw [← hW]; exact (HFO.out.alloc _).alloc _)
           have NN : Hid (wr.heap.size ≤ g ∧ wr.heap.size ≤ g1 ∧ wr.heap.size ≤ mb ∧ wr.heap.size ≤ fg) := hid ⟨by rw [hg]; have := HBB.out.size; omega, by rcases E1.out with e | e; (rw [e, HQ.out]; exact Nat.le_refl _); (rw [e]; show _ ≤ (wr.alloc _).heap.size; simp), by rw [hmb]; have := HBB.out.size; omega, by have := HFG.out; exact this⟩
           rw [hW]
           first | rw [← hg] | skip
           clear hW hg hmb
           obtain ⟨ib, hib⟩ : ∃ ib, ib = g1 := ⟨_, rfl⟩
           obtain ⟨ic, hic⟩ : ∃ ic, ic = c1 := ⟨_, rfl⟩
           rw [← hib] at HG OI NN
           rw [← hic] at HG OI
           clear hib hic)
        | (obtain ⟨W, hW⟩ : ∃ W, (wC).alloc (.cells #[.int .i64 U, .int .i64 S, .slice (some ⟨g1, 0, none⟩) L c1, .slice none 0 0, .slice (some ⟨fg, 0, none⟩) n fc, .map (some u1.heap.size), .int .i64 0, .int .i64 0, .int .i64 0, .int .i64 0, .bool false] 78) = W := ⟨_, rfl⟩
           obtain ⟨g, hg⟩ : ∃ g, g = wC.heap.size := ⟨_, rfl⟩
           obtain ⟨mb, hmb⟩ : ∃ mb, mb = u1.heap.size := ⟨_, rfl⟩
           have HG : Hid (W.heap[g]? = some (.cells #[.int .i64 U, .int .i64 S, .slice (some ⟨g1, 0, none⟩) L c1, .slice none 0 0, .slice (some ⟨fg, 0, none⟩) n fc, .map (some mb), .int .i64 0, .int .i64 0, .int .i64 0, .int .i64 0, .bool false] 78 (0, 0))) := hid (by rw [← hW, hg, hmb]; exact dev_at _ _ (by first | rfl | simp))
           have BW : Hid (Below wr.heap.size wr W) := hid (by rw [← hW]; exact HBB.out.alloc HBB.out.size _)
           have OI : Hid (W.ownsRow 0 5 1 (.slice (some ⟨g1, 0, none⟩) L c1) L (cellsB l)) := hid (by rw [← hW]; exact (own_same (O1.out.alloc (.map #[] 0)) fun k hk => HBC.out.block k (own_ltB (O1.out.alloc (.map #[] 0)) k hk)).alloc _)
           have OM : Hid (W.heap[mb]? = some (.map #[] 0)) := hid (by rw [← hW, hmb]; exact (Below.heap_alloc _ _ u1.heap.size (Nat.lt_of_lt_of_le (by simp) HBC.out.size)).trans ((HBC.out.block u1.heap.size (by simp)).trans (heap_alloc_new u1 _)))
           have OF : Hid (W.ownsRow 0 60 4 (.slice (some ⟨fg, 0, none⟩) n fc) n (cellsF fs)) := hid (by rw [← hW]; exact HFO.out.alloc _)
           have NN : Hid (wr.heap.size ≤ g ∧ wr.heap.size ≤ g1 ∧ wr.heap.size ≤ mb ∧ wr.heap.size ≤ fg) := hid ⟨by rw [hg]; have := HBB.out.size; omega, by rcases E1.out with e | e; (rw [e, HQ.out]; exact Nat.le_refl _); (rw [e]; show _ ≤ (wr.alloc _).heap.size; simp), by rw [hmb]; have := HB1.out.size; omega, by have := HFG.out; exact this⟩
           rw [hW]
           first | rw [← hg] | skip
           clear hW hg hmb
           obtain ⟨ib, hib⟩ : ∃ ib, ib = g1 := ⟨_, rfl⟩
           obtain ⟨ic, hic⟩ : ∃ ic, ic = c1 := ⟨_, rfl⟩
           rw [← hib] at HG OI NN
           rw [← hic] at HG OI
           clear hib hic)
        | (obtain ⟨W, hW⟩ : ∃ W, (wC).alloc (.cells #[.int .i64 U, .int .i64 S, .slice (some ⟨g2, 0, none⟩) L c2, .slice none 0 0, .slice (some ⟨fg, 0, none⟩) n fc, .map (some (wr.heap.size + 1)), .int .i64 0, .int .i64 0, .int .i64 0, .int .i64 0, .bool false] 78) = W := ⟨_, rfl⟩
           obtain ⟨g, hg⟩ : ∃ g, g = wC.heap.size := ⟨_, rfl⟩
           obtain ⟨mb, hmb⟩ : ∃ mb, mb = (wr.heap.size + 1) := ⟨_, rfl⟩
           have HG : Hid (W.heap[g]? = some (.cells #[.int .i64 U, .int .i64 S, .slice (some ⟨g2, 0, none⟩) L c2, .slice none 0 0, .slice (some ⟨fg, 0, none⟩) n fc, .map (some mb), .int .i64 0, .int .i64 0, .int .i64 0, .int .i64 0, .bool false] 78 (0, 0))) := hid (by rw [← hW, hg, hmb]; exact dev_at _ _ (by first | rfl | simp))
           have BW : Hid (Below wr.heap.size wr W) := hid (by rw [← hW]; exact HBB.out.alloc HBB.out.size _)
           have OI : Hid (W.ownsRow 0 5 1 (.slice (some ⟨g2, 0, none⟩) L c2) L (cellsB l)) := hid (by rw [← hW]; exact (own_same (O2.out) fun k hk => HBC.out.block k (own_ltB (O2.out) k hk)).alloc _)
           have OM : Hid (W.heap[mb]? = some (.map #[] 0)) := hid (by rw [← hW, hmb]; exact (Below.heap_alloc _ _ _ (Nat.lt_of_lt_of_le (Nat.lt_of_lt_of_le (by show wr.heap.size + 1 < ((wr.alloc _).alloc _).heap.size; simp) K2.out.size) HBC.out.size)).trans ((HBC.out.block _ (Nat.lt_of_lt_of_le (by show wr.heap.size + 1 < ((wr.alloc _).alloc _).heap.size; simp) K2.out.size)).trans ((K2.out.block _ (by show wr.heap.size + 1 < ((wr.alloc _).alloc _).heap.size; simp) (by rw [HQ.out]; simp)).trans (by have := M2.out; rw [HQ.out] at this; exact this))))
           have OF : Hid (W.ownsRow 0 60 4 (.slice (some ⟨fg, 0, none⟩) n fc) n (cellsF fs)) := hid (by rw [← hW]; exact HFO.out.alloc _)
           have NN : Hid (wr.heap.size ≤ g ∧ wr.heap.size ≤ g2 ∧ wr.heap.size ≤ mb ∧ wr.heap.size ≤ fg) := hid ⟨by rw [hg]; have := HBB.out.size; omega, by rcases E2.out with e | e; (rw [e, HQ.out]; exact Nat.le_refl _); (rw [e]; show _ ≤ ((wr.alloc _).alloc _).heap.size; simp; omega), by rw [hmb]; omega, by have := HFG.out; exact this⟩
           rw [hW]
           first | rw [← hg] | skip
           clear hW hg hmb
           obtain ⟨ib, hib⟩ : ∃ ib, ib = g2 := ⟨_, rfl⟩
           obtain ⟨ic, hic⟩ : ∃ ic, ic = c2 := ⟨_, rfl⟩
           rw [← hib] at HG OI NN
           rw [← hic] at HG OI
           clear hib hic)
        | (obtain ⟨W, hW⟩ : ∃ W, (wC).alloc (.cells #[.int .i64 U, .int .i64 S, .slice (some ⟨g3, 0, none⟩) L c3, .slice none 0 0, .slice (some ⟨fg, 0, none⟩) n fc, .map (some wr.heap.size), .int .i64 0, .int .i64 0, .int .i64 0, .int .i64 0, .bool false] 78) = W := ⟨_, rfl⟩
           obtain ⟨g, hg⟩ : ∃ g, g = wC.heap.size := ⟨_, rfl⟩
           obtain ⟨mb, hmb⟩ : ∃ mb, mb = wr.heap.size := ⟨_, rfl⟩
           have HG : Hid (W.heap[g]? = some (.cells #[.int .i64 U, .int .i64 S, .slice (some ⟨g3, 0, none⟩) L c3, .slice none 0 0, .slice (some ⟨fg, 0, none⟩) n fc, .map (some mb), .int .i64 0, .int .i64 0, .int .i64 0, .int .i64 0, .bool false] 78 (0, 0))) := hid (by rw [← hW, hg, hmb]; exact dev_at _ _ (by first | rfl | simp))
           have BW : Hid (Below wr.heap.size wr W) := hid (by rw [← hW]; exact HBB.out.alloc HBB.out.size _)
           have OI : Hid (W.ownsRow 0 5 1 (.slice (some ⟨g3, 0, none⟩) L c3) L (cellsB l)) := hid (by rw [← hW]; exact (own_same (O3.out) fun k hk => HBC.out.block k (own_ltB (O3.out) k hk)).alloc _)
           have OM : Hid (W.heap[mb]? = some (.map #[] 0)) := hid (by rw [← hW, hmb]; exact (Below.heap_alloc _ _ _ (Nat.lt_of_lt_of_le (Nat.lt_of_lt_of_le (by show wr.heap.size < ((wr.alloc _).alloc _).heap.size; simp; omega) K3.out.size) HBC.out.size)).trans ((HBC.out.block _ (Nat.lt_of_lt_of_le (by show wr.heap.size < ((wr.alloc _).alloc _).heap.size; simp; omega) K3.out.size)).trans ((K3.out.block _ (by show wr.heap.size < ((wr.alloc _).alloc _).heap.size; simp; omega) (by rw [HQ.out]; simp)).trans (by have := M3.out; rw [HQ.out] at this; exact this))))
           have OF : Hid (W.ownsRow 0 60 4 (.slice (some ⟨fg, 0, none⟩) n fc) n (cellsF fs)) := hid (by rw [← hW]; exact HFO.out.alloc _)
           have NN : Hid (wr.heap.size ≤ g ∧ wr.heap.size ≤ g3 ∧ wr.heap.size ≤ mb ∧ wr.heap.size ≤ fg) := hid ⟨by rw [hg]; have := HBB.out.size; omega, by rcases E3.out with e | e; (rw [e, HQ.out]; omega); (rw [e]; show _ ≤ ((wr.alloc _).alloc _).heap.size; simp; omega), by rw [hmb]; exact Nat.le_refl _, by have := HFG.out; exact this⟩
           rw [hW]
           first | rw [← hg] | skip
           clear hW hg hmb
           obtain ⟨ib, hib⟩ : ∃ ib, ib = g3 := ⟨_, rfl⟩
           obtain ⟨ic, hic⟩ : ∃ ic, ic = c3 := ⟨_, rfl⟩
           rw [← hib] at HG OI NN
           rw [← hic] at HG OI
           clear hib hic)
      all_goals have HGT := hid (Nat.lt_of_lt_of_le (blk_lt TR.out) BW.out.size)
      all_goals have x0 : W.cell? ⟨tb, 0, none⟩ = some (.int .i64 U) := (BW.out.cell (p := ⟨tb, 0, none⟩) (blk_lt TR.out)).trans ((blk_cell TR.out 0).trans rfl)
      all_goals have x1 : W.cell? ⟨tb, 1, none⟩ = some (.int .i64 S) := (BW.out.cell (p := ⟨tb, 1, none⟩) (blk_lt TR.out)).trans ((blk_cell TR.out 1).trans rfl)
      all_goals have hal := (Below.refl _ W).alloc (Nat.le_refl _) (.cells (madeCells #[.int .u8 0] T) 5)
      all_goals have HG2 := hid ((hal.block g (blk_lt HG.out)).trans HG.out)
      all_goals have g3 : (W.alloc (.cells (madeCells #[.int .u8 0] T) 5)).cell? ⟨g, 3, none⟩ = some (.slice none 0 0) := (blk_cell HG2.out 3).trans rfl
      all_goals have f3 := blk_free HG2.out 3
      all_goals have hmk := HMK.out W
      all_goals have HAL2 := hid hal
      all_goals have HDV := hid (dev_made2 (w := W) (g := g) (ib := ib) (ic := ic) (mb := mb) (fg := fg) (fc := fc) (fs := fs) HUU.out.1 HUU.out.2.1 HUU.out.2.2 HL4.out (by rw [← HNN.out]; exact HFL.out) HFK.out (by rw [← HLL.out, ← HNN.out]; exact HG.out) (by rw [← HLL.out]; exact OI.out) OM.out (by rw [← HNN.out]; exact OF.out))
      all_goals rw [← HT.out] at HDV
      all_goals clear hal
      all_goals go_upto_region 17 with fail
      all_goals clear g3 f3 hmk x0 x1
      all_goals have HBF := hid ((BW.out.trans (HAL2.out.mono BW.out.size)).setCell (p := ⟨g, 3, none⟩) NN.out.1 (.slice (some ⟨W.heap.size, 0, none⟩) T T))
      all_goals obtain ⟨sb, hsb⟩ : ∃ sb, sb = W.heap.size := ⟨_, rfl⟩
      all_goals have hsw : wr.heap.size ≤ sb := by rw [hsb]; exact BW.out.size
      all_goals rw [← hsb] at HDV HBF ⊢
      all_goals obtain ⟨W2, hW2⟩ : ∃ W2, (W.alloc (.cells (madeCells #[.int .u8 0] T) 5)).setCell ⟨g, 3, none⟩ (.slice (some ⟨sb, 0, none⟩) T T) = W2 := ⟨_, rfl⟩
      all_goals rw [hW2] at HDV HBF ⊢
      all_goals clear hW2
      all_goals have HSB := hid hsb
      all_goals have HSW := hid hsw
      all_goals clear hsb hsw
      all_goals have d3 : W2.cell? ⟨g, 3, none⟩ = some (.slice (some ⟨sb, 0, none⟩) T T) := (HDV.out.cell 3).trans (by show some (Value.slice (some ⟨sb, 0, none⟩) (U * S) (U * S)) = _; rw [← HT.out])
      all_goals have hcp := run_copy_zero (P := Try.prog) W2 22 22 3 5 (some ⟨sb, 0, none⟩) none T T 0 0 Try.underlying22 (by rw [sizeB]; rfl) (by omega)
      all_goals go_wp2_with (at_builtin; refine wpList_copy_run _ rfl (.tmp 81) (.tmp 82) 22 22 rfl _ _ rfl rfl hcp ?_)
      all_goals go_ret2
      all_goals refine ⟨⟨g, ib, ic, sb, mb, .slice (some ⟨fg, 0, none⟩) fs.length fc⟩, rfl, ?_, HALR.out.trans (HBF.out.mono HALR.out.size), ?_⟩
      all_goals first
        | (rw [← HT.out]; exact HDV.out)
        | (rintro k (rfl | rfl | rfl | rfl | hk)
           · exact Nat.le_trans HALR.out.size NN.out.1
           · exact Nat.le_trans HALR.out.size NN.out.2.1
           · exact Nat.le_trans HALR.out.size HSW.out
           · exact Nat.le_trans HALR.out.size NN.out.2.2.1
           · have e : fg = k := Option.some.inj hk
             rw [← e]
             exact Nat.le_trans HALR.out.size NN.out.2.2.2)

end Go.Proofs.Ytkhejipcclpknaa
