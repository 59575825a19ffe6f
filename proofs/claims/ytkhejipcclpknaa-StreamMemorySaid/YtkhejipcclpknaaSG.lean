/- A device's reads. No statement is proved here. -/
import Derived.Test.YtkhejipcclpknaaSE
import Derived.Test.YtkhejipcclpknaaSF
import Derived.Test.YtkhejipcclpknaaRowB
import Derived.Deep.RegionHeld3
set_option linter.unusedVariables false
set_option linter.unusedSimpArgs false
namespace Go.Proofs.Ytkhejipcclpknaa
open Go.RowKit

def Dv.slab (D : Dv) (b : Nat) : List Int := (D.inp.drop (b * D.unit)).take D.unit
def Dv.mblk (D : Dv) (b : Nat) : List Int := (D.mem.drop (b * D.unit)).take D.unit
/-- What a read answers: the error, the bytes, the device behind it. -/
def Dv.readIn (D : Dv) (b : Int) : Int × List Int × Dv :=
  if D.down = true then (34, [], D) else if b < 0 ∨ (D.blocks : Int) ≤ b then (35, [], D)
  else if ({ D with ci := wr64 (D.ci + 1) } : Dv).readB 1 b = true then (0, D.slab b.toNat, ({ D with ci := wr64 (D.ci + 1) } : Dv).readD 1 b) else (37, [], ({ D with ci := wr64 (D.ci + 1) } : Dv).readD 1 b)
def Dv.readSc (D : Dv) (b : Int) : Int × List Int × Dv :=
  if D.down = true then (34, [], D) else if b < 0 ∨ (D.scr : Int) ≤ b then (35, [], D)
  else if ({ D with cs := wr64 (D.cs + 1) } : Dv).readB 2 b = true then (0, D.mblk b.toNat, ({ D with cs := wr64 (D.cs + 1) } : Dv).readD 2 b) else (37, [], ({ D with cs := wr64 (D.cs + 1) } : Dv).readD 2 b)
/-- An answer of bytes in a row of its own. -/
abbrev RowB (w : World) (B : Nat) (v : Value) (l : List Int) : Prop := w.ownsRow B 5 1 v l.length (cellsB l)
def RdPost (w : World) (d : Dl) (r : Int × List Int × Dv) (e : Ending) (w' : World) : Prop :=
  ∃ v, e = .returned (.tuple #[v, .int .i64 r.1]) ∧ DvM w' d r.2.2 ∧ Upd d.S w w' ∧ RowB w' w.heap.size v r.2.1 ∧ (r.1 ≠ 0 → v = .slice none 0 0)
theorem infoB : (Try.prog.info? 5).map (fun i => (i.zero, i.size, i.bytes)) = some (some (.int .u8 0), 1, 1) := by kernel_rfl
theorem row_nil (w : World) (B : Nat) : RowB w B (.slice none 0 0) [] := World.ownsRow_nil _ _ _ _
/-- append of bytes that can be read onto an empty slice that is not nil. -/
theorem app_bytes {w : World} (B : Nat) (hB : B ≤ w.heap.size) (ty : TypeId) (a : Addr) (m c : Nat) (l : List Int) (hm : l.length = m) (hc : ∀ i (hi : i < l.length), w.cell? (a.add i) = some (.int .u8 l[i])) (hl : m ≤ 100000000) :
    ∃ v' w', (Builtin.append_ #[22, 22] ty #[.slice (some ⟨w.heap.size, 0, none⟩) 0 0, .slice (some a) m c]).run Try.prog (w.alloc (.cells #[] 5)).drew = .ok v' w' ∧ RowB w' B v' l ∧ Below w.heap.size w w' := by
  obtain ⟨ti, hi, hz0, hz1, hz2⟩ := info_parts infoB
  have hal := ((Below.refl _ w).alloc (Nat.le_refl _) (.cells #[] 5)).drew
  have hnew : (w.alloc (.cells #[] 5)).drew.heap[w.heap.size]? = some (.cells #[] 5 (0, 0)) := heap_alloc_new w _
  have hown : (w.alloc (.cells #[] 5)).drew.ownsRow w.heap.size 5 1 (.slice (some ⟨w.heap.size, 0, none⟩) 0 0) 0 [] := ⟨rfl, .inr ⟨w.heap.size, 0, #[], rfl, Nat.le_refl _, hnew, Nat.le_refl _, by unfold maxLen; omega, rfl, rfl⟩⟩
  by_cases hne : l = []
  · subst hne
    subst hm
    obtain ⟨v', w', h1, h2, h3, _⟩ := run_append_own3 (w.alloc (.cells #[] 5)).drew w.heap.size 22 ty 5 ti (.int .u8 0) 1 1 Try.underlying22 hi hz0 hz1 hz2 rfl _ _ _ hown a 0 c [] rfl (fun j u hj => by simp at hj) (by simp) (by unfold maxLen; omega) (by omega) hal.size
    refine ⟨v', w', h1, ?_, hal.grown h3 hal.size (fun k e => by cases e; exact Nat.le_refl _)⟩
    exact ⟨rfl, h2.2.imp id fun ⟨g, cap, cur, k1, k2, k3⟩ => ⟨g, cap, cur, k1, Nat.le_trans hB k2, k3⟩⟩
  · obtain ⟨v', w', h1, h2, h3, _⟩ := run_append_own3 (w.alloc (.cells #[] 5)).drew w.heap.size 22 ty 5 ti (.int .u8 0) 1 1 Try.underlying22 hi hz0 hz1 hz2 rfl _ _ _ hown a m c (cellsB l) (by rw [cellsB_length, hm, Nat.mul_one]) (fun j u hj => by
      have hj' : j < l.length := by
        have := (List.getElem?_eq_some_iff.1 hj).1
        rwa [cellsB_length] at this
      rw [cellsB_get l j hj'] at hj
      rw [← Option.some.inj hj]
      exact (hal.cell (p := a.add j) (World.block_lt_of_cell? w _ (hc j hj'))).trans (hc j hj')) (cellsB_one l) (by unfold maxLen; omega) (by omega) hal.size
    refine ⟨v', w', h1, ?_, hal.grown h3 hal.size (fun k e => by cases e; exact Nat.le_refl _)⟩
    rw [Nat.zero_add, List.nil_append] at h2
    rw [← hm] at h2
    exact ⟨h2.1, h2.2.imp id fun ⟨g, cap, cur, k1, k2, k3⟩ => ⟨g, cap, cur, k1, Nat.le_trans hB k2, k3⟩⟩
theorem readD_inp (D : Dv) (k b : Int) : (D.readD k b).inp = D.inp := by unfold Dv.readD; split <;> rfl
theorem readD_unit (D : Dv) (k b : Int) : (D.readD k b).unit = D.unit := by unfold Dv.readD; split <;> rfl
theorem readD_scr (D : Dv) (k b : Int) : (D.readD k b).scr = D.scr := by unfold Dv.readD; split <;> rfl
theorem readD_mem (D : Dv) (k b : Int) : (D.readD k b).mem = D.mem := by unfold Dv.readD; split <;> rfl
theorem slab_len {D : Dv} {b : Nat} : (D.slab b).length = min D.unit (D.inp.length - b * D.unit) := by
  unfold Dv.slab
  rw [List.length_take, List.length_drop]
theorem slab_get {D : Dv} {b i : Nat} (hi : i < (D.slab b).length) : D.inp[b * D.unit + i]? = some (D.slab b)[i] := by
  have h1 : (D.slab b)[i]? = some (D.slab b)[i] := List.getElem?_eq_getElem hi
  rw [← h1]
  have h2 := slab_len (D := D) (b := b)
  unfold Dv.slab
  rw [List.getElem?_take, if_pos (by omega), List.getElem?_drop]
theorem blocks_lt {D : Dv} (h0 : 16 ≤ D.unit) {b : Nat} (hb : b < D.blocks) : b * D.unit < D.inp.length := by
  unfold Dv.blocks at hb
  have h1 := (Nat.le_div_iff_mul_le (by omega)).1 (show b + 1 ≤ (D.inp.length + D.unit - 1) / D.unit from hb)
  rw [Nat.add_mul, Nat.one_mul] at h1
  omega
set_option maxHeartbeats 4000000 in
set_option maxRecDepth 100000 in
theorem readIn_any {w : World} {d : Dl} {D : Dv} (h : DvM w d D) (b : Int) : Calls Try.prog 106 #[.pointer (some ⟨d.g, 0, none⟩), .int .i64 b] w (RdPost w d (D.readIn b)) := by
  have g10 : w.cell? ⟨d.g, 10, none⟩ = some (.bool D.down) := (h.cell 10).trans rfl
  have g6 : w.cell? ⟨d.g, 6, none⟩ = some (.int .i64 D.ci) := (h.cell 6).trans rfl
  have f6 := h.free 6
  have H0 := hid h
  cases hdn : D.down with
  | true =>
    rw [hdn] at g10
    have HR := hid (show D.readIn b = (34, [], D) by unfold Dv.readIn; rw [if_pos hdn])
    clear h
    go_enter Try.func106, Try.ntmps106
    go_wp2_with fail
    go_ret2
    rw [HR.out]
    exact ⟨_, rfl, H0.out, Upd.refl _ _, row_nil _ _, fun _ => rfl⟩
  | false =>
    rw [hdn] at g10
    by_cases hb0 : b < 0
    · have HR := hid (show D.readIn b = (35, [], D) by unfold Dv.readIn; rw [if_neg (by simp [hdn]), if_pos (.inl hb0)])
      clear h
      go_enter Try.func106, Try.ntmps106
      go_wp2_with fail
      go_ret2
      rw [HR.out]
      exact ⟨_, rfl, H0.out, Upd.refl _ _, row_nil _ _, fun _ => rfl⟩
    have HBL := hid (blocks_any h)
    by_cases hb1 : (D.blocks : Int) ≤ b
    · have HR := hid (show D.readIn b = (35, [], D) by unfold Dv.readIn; rw [if_neg (by simp [hdn]), if_pos (.inr hb1)])
      clear h
      go_enter Try.func106, Try.ntmps106
      go_wp2_with (go_at_call 23; refine HBL.out.mono ?_; rintro e w1 ⟨rfl, rfl⟩)
      go_ret2
      rw [HR.out]
      exact ⟨_, rfl, H0.out.kept (fun _ _ => rfl), (Upd.refl _ _).drew, row_nil _ _, fun _ => rfl⟩
    obtain ⟨n, rfl⟩ := Int.eq_ofNat_of_zero_le (show 0 ≤ b by omega)
    have hn : n < D.blocks := by omega
    have hnI : (n : Int) < (D.blocks : Int) := by omega
    have hF := blocks_lt h.u0 hn
    have u0 := h.u0
    have u1 := h.u1
    have i1 := h.i1
    have hok : okP 1 (n : Int) := ⟨by omega, by omega, by omega, by
      have := Nat.le_mul_of_pos_right n (show 0 < D.unit by omega)
      have h16 := Nat.mul_le_mul_left n u0
      omega⟩
    obtain ⟨D1, hD1⟩ : ∃ D1 : Dv, D1 = { D with ci := wr64 (D.ci + 1) } := ⟨_, rfl⟩
    have H1 : Hid (DvM (w.setCell ⟨d.g, 6, none⟩ (.int .i64 (wrap64 (D.ci + 1)))).drew d D1) := hid (by rw [hD1]; exact (h.setCi _).kept fun _ _ => rfl)
    have U1 : Hid (Upd d.S w (w.setCell ⟨d.g, 6, none⟩ (.int .i64 (wrap64 (D.ci + 1)))).drew) := hid ((Upd.refl _ _).setCell (p := ⟨d.g, 6, none⟩) (fun _ => .inl rfl) _).drew
    have HR := hid (show D.readIn (n : Int) = if D1.readB 1 (n : Int) = true then (0, D.slab n, D1.readD 1 (n : Int)) else (37, [], D1.readD 1 (n : Int)) by
      unfold Dv.readIn
      rw [if_neg (by simp [hdn]), if_neg (by omega), hD1]
      rfl)
    have HD1 := hid hD1
    have HRD := hid (read_any H1.out 1 (n : Int) hok)
    clear h hD1 hok
    go_enter Try.func106, Try.ntmps106
    go_upto_region 6 with (go_at_call 23; refine HBL.out.mono ?_; rintro e w1 ⟨rfl, rfl⟩)
    clear HBL g10 g6 f6
    obtain ⟨w2, hw2⟩ : ∃ w2, (w.setCell ⟨d.g, 6, none⟩ (.int .i64 (wrap64 (D.ci + 1)))).drew = w2 := ⟨_, rfl⟩
    rw [hw2] at H1 U1 HRD ⊢
    clear hw2
    cases hrb : D1.readB 1 (n : Int) with
    | false =>
      rw [hrb] at HRD
      go_wp2_with (go_at_call 104; refine HRD.out.mono ?_; rintro e w3 ⟨rfl, h3, u3⟩; have H3 := hid h3; have U3 := hid u3; clear h3 u3)
      go_ret2
      rw [HR.out, if_neg (by rw [hrb]; simp)]
      exact ⟨_, rfl, H3.out, U1.out.trans U3.out fun _ _ h => h, row_nil _ _, fun _ => rfl⟩
    | true =>
      rw [hrb] at HRD
      go_upto_region 8 with (go_at_call 104; refine HRD.out.mono ?_; rintro e w3 ⟨rfl, h3, u3⟩; have H3 := hid h3; have U3 := hid u3; clear h3 u3)
      have e1 : (D1.readD 1 (n : Int)).inp = D.inp := by rw [readD_inp, HD1.out]
      have e2 : (D1.readD 1 (n : Int)).unit = D.unit := by rw [readD_unit, HD1.out]
      have g0 : w3.cell? ⟨d.g, 0, none⟩ = some (.int .i64 D.unit) := (H3.out.cell 0).trans (by rw [← e2]; rfl)
      have g2 : w3.cell? ⟨d.g, 2, none⟩ = some (.slice (some ⟨d.ib, 0, none⟩) D.inp.length d.ic) := (H3.out.cell 2).trans (by rw [← e1]; rfl)
      obtain ⟨cur, hi1, hi2, hi3, hi4, hi5⟩ := H3.out.hi
      rw [e1] at hi2
      have hi5' : ∀ i (hi : i < D.inp.length), cur[i]? = some (.int .u8 D.inp[i]) := fun i hi => by
        have := hi5 i (by rw [e1]; exact hi)
        simpa [e1] using this
      obtain ⟨F, hFe⟩ : ∃ F, F = n * D.unit := ⟨_, rfl⟩
      obtain ⟨U, hU⟩ : ∃ U, U = D.unit := ⟨_, rfl⟩
      obtain ⟨L, hL⟩ : ∃ L, L = D.inp.length := ⟨_, rfl⟩
      obtain ⟨K, hK⟩ : ∃ K, K = min U (L - F) := ⟨_, rfl⟩
      have hsl := slab_len (D := D) (b := n)
      rw [← hFe, ← hU, ← hL, ← hK] at hsl
      have hgl := blk_lt H3.out.hg
      obtain ⟨v', w4, hrun, hrow, hB4⟩ := app_bytes (w := w3) w.heap.size (Nat.le_trans U1.out.size U3.out.size) 22 ⟨d.ib, F, none⟩ K (d.ic - F) (D.slab n) hsl (fun i hi => by
        rw [Addr.add_lit, blk_cell hi1]
        have hFi : F + i < D.inp.length := by omega
        have hg := slab_get hi
        rw [← hFe, List.getElem?_eq_getElem hFi] at hg
        rw [hi5' (F + i) hFi, Option.some.inj hg]) (by omega)
      have HROW := hid hrow
      have HB4 := hid hB4
      have hm1 : (n : Int) * (U : Int) = (F : Int) := by rw [hFe, Int.natCast_mul, hU]
      have hal := ((Below.refl _ w3).alloc (Nat.le_refl _) (.cells #[] 5))
      have g0' : (w3.alloc (.cells #[] 5)).cell? ⟨d.g, 0, none⟩ = some (.int .i64 U) := by rw [hU]; exact (hal.cell (p := ⟨d.g, 0, none⟩) hgl).trans g0
      have g2' : (w3.alloc (.cells #[] 5)).cell? ⟨d.g, 2, none⟩ = some (.slice (some ⟨d.ib, 0, none⟩) L d.ic) := by rw [hL]; exact (hal.cell (p := ⟨d.g, 2, none⟩) hgl).trans g2
      rw [← hU] at g0 hF u0 u1
      rw [← hL] at g2 hF i1 hi2
      have hFL : F < L := by rw [hFe, ← hU]; exact hF
      have HSL := hid hsl
      have hwf1 : IntKind.i64.wrap (F : Int) = (F : Int) := wrap_id (by omega) (by omega)
      have hwf2 : IntKind.i64.wrap ((F : Int) + (U : Int)) = (F : Int) + (U : Int) := wrap_id (by omega) (by omega)
      have hp4 : ¬ d.ic = F := by omega
      clear e1 e2 hi1 hi3 hi4 hi5 hi5' hal hrow hB4 hsl hF hFe hU hL hn
      by_cases hFU : F + U ≤ L
      · obtain rfl : K = U := by omega
        clear hK
        have q1 : ¬ (L : Int) < (F : Int) + (K : Int) := by omega
        have q2 : (F : Int) + (K : Int) ≤ (L : Int) := by omega
        have q3 : ((F : Int) + (K : Int)).toNat = F + K := by omega
        have q4 : F + K - F = K := by omega
        have q5 : 0 ≤ (F : Int) + (K : Int) := by omega
        have q6 : (F : Int) + (K : Int) ≤ (d.ic : Int) := by omega
        have q7 : (if (F : Int) + (K : Int) < (L : Int) then (F : Int) + (K : Int) else (L : Int)) = (F : Int) + (K : Int) := by split <;> omega
        go_upto_region 9 with fail
        have k0 : w4.cell? ⟨d.g, 0, none⟩ = some (.int .i64 K) := (HB4.out.cell (p := ⟨d.g, 0, none⟩) hgl).trans g0
        have k2 : w4.cell? ⟨d.g, 2, none⟩ = some (.slice (some ⟨d.ib, 0, none⟩) L d.ic) := (HB4.out.cell (p := ⟨d.g, 2, none⟩) hgl).trans g2
        go_region_held3 (fun W : World => W.cell? ⟨d.g, 0, none⟩ = some (.int .i64 K) ∧ W.cell? ⟨d.g, 2, none⟩ = some (.slice (some ⟨d.ib, 0, none⟩) L d.ic)) (go_keep) (refine step_append_run rfl _ _ 22 22 rfl _ _ rfl rfl hrun ?_)
        all_goals go_wp2_with fail
        all_goals go_ret2
        all_goals rw [HR.out, if_pos hrb]
        all_goals exact ⟨_, rfl, H3.out.below HB4.out, (U1.out.trans U3.out fun _ _ h => h).trans (Upd.of_new HB4.out) fun _ _ h => h, HROW.out, fun h => absurd rfl h⟩
      · have q1 : ¬ (F : Int) + (U : Int) < (L : Int) := by omega
        have q2 : (L : Int) ≤ (d.ic : Int) := by omega
        have q3 : L - F = K := by omega
        have q4 : F ≤ L := by omega
        clear hK
        go_upto_region 9 with fail
        have k0 : w4.cell? ⟨d.g, 0, none⟩ = some (.int .i64 U) := (HB4.out.cell (p := ⟨d.g, 0, none⟩) hgl).trans g0
        have k2 : w4.cell? ⟨d.g, 2, none⟩ = some (.slice (some ⟨d.ib, 0, none⟩) L d.ic) := (HB4.out.cell (p := ⟨d.g, 2, none⟩) hgl).trans g2
        go_region_held3 (fun W : World => W.cell? ⟨d.g, 0, none⟩ = some (.int .i64 U) ∧ W.cell? ⟨d.g, 2, none⟩ = some (.slice (some ⟨d.ib, 0, none⟩) L d.ic)) (go_keep) (refine step_append_run rfl _ _ 22 22 rfl _ _ rfl rfl hrun ?_)
        all_goals go_wp2_with fail
        all_goals go_ret2
        all_goals rw [HR.out, if_pos hrb]
        all_goals exact ⟨_, rfl, H3.out.below HB4.out, (U1.out.trans U3.out fun _ _ h => h).trans (Upd.of_new HB4.out) fun _ _ h => h, HROW.out, fun h => absurd rfl h⟩
theorem mblk_len {D : Dv} (hm : D.mem.length = D.unit * D.scr) {b : Nat} (hb : b < D.scr) : (D.mblk b).length = D.unit := by
  unfold Dv.mblk
  have := Nat.mul_le_mul_right D.unit (show b + 1 ≤ D.scr by omega)
  rw [Nat.add_mul, Nat.one_mul, Nat.mul_comm D.scr D.unit] at this
  rw [List.length_take, List.length_drop]
  omega
theorem mblk_get {D : Dv} {b i : Nat} (hi : i < (D.mblk b).length) : D.mem[b * D.unit + i]? = some (D.mblk b)[i] := by
  have h1 : (D.mblk b)[i]? = some (D.mblk b)[i] := List.getElem?_eq_getElem hi
  rw [← h1]
  have h2 : (D.mblk b).length ≤ D.unit := by
    unfold Dv.mblk
    rw [List.length_take]
    omega
  unfold Dv.mblk
  rw [List.getElem?_take, if_pos (by omega), List.getElem?_drop]
theorem DvM.mcell {w : World} {d : Dl} {D : Dv} (h : DvM w d D) (i : Nat) : w.cell? ⟨d.sb, i, none⟩ = (cellsB D.mem)[i]? := by
  obtain ⟨cur, h1, h2⟩ := h.hs
  rw [blk_cell h1, ← Array.getElem?_toList, h2]
set_option maxHeartbeats 4000000 in
set_option maxRecDepth 100000 in
theorem readSc_any {w : World} {d : Dl} {D : Dv} (h : DvM w d D) (b : Int) : Calls Try.prog 103 #[.pointer (some ⟨d.g, 0, none⟩), .int .i64 b] w (RdPost w d (D.readSc b)) := by
  have g10 : w.cell? ⟨d.g, 10, none⟩ = some (.bool D.down) := (h.cell 10).trans rfl
  have g7 : w.cell? ⟨d.g, 7, none⟩ = some (.int .i64 D.cs) := (h.cell 7).trans rfl
  have g1 : w.cell? ⟨d.g, 1, none⟩ = some (.int .i64 D.scr) := (h.cell 1).trans rfl
  have f7 := h.free 7
  have H0 := hid h
  cases hdn : D.down with
  | true =>
    rw [hdn] at g10
    have HR := hid (show D.readSc b = (34, [], D) by unfold Dv.readSc; rw [if_pos hdn])
    clear h
    go_enter Try.func103, Try.ntmps103
    go_wp2_with fail
    go_ret2
    rw [HR.out]
    exact ⟨_, rfl, H0.out, Upd.refl _ _, row_nil _ _, fun _ => rfl⟩
  | false =>
    rw [hdn] at g10
    by_cases hb0 : b < 0
    · have HR := hid (show D.readSc b = (35, [], D) by unfold Dv.readSc; rw [if_neg (by simp [hdn]), if_pos (.inl hb0)])
      clear h
      go_enter Try.func103, Try.ntmps103
      go_wp2_with fail
      go_ret2
      rw [HR.out]
      exact ⟨_, rfl, H0.out, Upd.refl _ _, row_nil _ _, fun _ => rfl⟩
    by_cases hb1 : (D.scr : Int) ≤ b
    · have HR := hid (show D.readSc b = (35, [], D) by unfold Dv.readSc; rw [if_neg (by simp [hdn]), if_pos (.inr hb1)])
      clear h
      go_enter Try.func103, Try.ntmps103
      go_wp2_with fail
      go_ret2
      rw [HR.out]
      exact ⟨_, rfl, H0.out, Upd.refl _ _, row_nil _ _, fun _ => rfl⟩
    obtain ⟨n, rfl⟩ := Int.eq_ofNat_of_zero_le (show 0 ≤ b by omega)
    have hn : n < D.scr := by omega
    have hnI : (n : Int) < (D.scr : Int) := by omega
    have hs1 := h.s1
    have hok : okP 2 (n : Int) := ⟨by omega, by omega, by omega, by omega⟩
    obtain ⟨D1, hD1⟩ : ∃ D1 : Dv, D1 = { D with cs := wr64 (D.cs + 1) } := ⟨_, rfl⟩
    have H1 : Hid (DvM (w.setCell ⟨d.g, 7, none⟩ (.int .i64 (wrap64 (D.cs + 1)))) d D1) := hid (by rw [hD1]; exact h.setCs _)
    have U1 : Hid (Upd d.S w (w.setCell ⟨d.g, 7, none⟩ (.int .i64 (wrap64 (D.cs + 1))))) := hid ((Upd.refl _ _).setCell (p := ⟨d.g, 7, none⟩) (fun _ => .inl rfl) _)
    have HR := hid (show D.readSc (n : Int) = if D1.readB 2 (n : Int) = true then (0, D.mblk n, D1.readD 2 (n : Int)) else (37, [], D1.readD 2 (n : Int)) by
      unfold Dv.readSc
      rw [if_neg (by simp [hdn]), if_neg (by omega), hD1]
      rfl)
    have HD1 := hid hD1
    have HRD := hid (read_any H1.out 2 (n : Int) hok)
    have hml := h.ml
    clear h hD1 hok
    go_enter Try.func103, Try.ntmps103
    go_upto_region 6 with fail
    clear g10 g7 f7 g1
    obtain ⟨w2, hw2⟩ : ∃ w2, w.setCell ⟨d.g, 7, none⟩ (.int .i64 (wrap64 (D.cs + 1))) = w2 := ⟨_, rfl⟩
    rw [hw2] at H1 U1 HRD ⊢
    clear hw2
    cases hrb : D1.readB 2 (n : Int) with
    | false =>
      rw [hrb] at HRD
      go_wp2_with (go_at_call 104; refine HRD.out.mono ?_; rintro e w3 ⟨rfl, h3, u3⟩; have H3 := hid h3; have U3 := hid u3; clear h3 u3)
      go_ret2
      rw [HR.out, if_neg (by rw [hrb]; simp)]
      exact ⟨_, rfl, H3.out, U1.out.trans U3.out fun _ _ h => h, row_nil _ _, fun _ => rfl⟩
    | true =>
      rw [hrb] at HRD
      go_upto_region 8 with (go_at_call 104; refine HRD.out.mono ?_; rintro e w3 ⟨rfl, h3, u3⟩; have H3 := hid h3; have U3 := hid u3; clear h3 u3)
      have e1 : (D1.readD 2 (n : Int)).mem = D.mem := by rw [readD_mem, HD1.out]
      have e2 : (D1.readD 2 (n : Int)).unit = D.unit := by rw [readD_unit, HD1.out]
      have e3 : (D1.readD 2 (n : Int)).scr = D.scr := by rw [readD_scr, HD1.out]
      have hsl := mblk_len (D := D) hml hn
      have u1 := H3.out.u1
      rw [e2] at u1
      obtain ⟨v', w4, hrun, hrow, hB4⟩ := app_bytes (w := w3) w.heap.size (Nat.le_trans U1.out.size U3.out.size) 22 ⟨d.sb, n * D.unit, none⟩ D.unit (D.unit * D.scr - n * D.unit) (D.mblk n) hsl (fun i hi => by
        rw [Addr.add_lit, H3.out.mcell, e1]
        have hg := mblk_get hi
        have hlt := (List.getElem?_eq_some_iff.1 hg).1
        rw [cellsB_get _ _ hlt]
        rw [List.getElem?_eq_getElem hlt] at hg
        rw [Option.some.inj hg]) (by omega)
      have HROW := hid hrow
      have HB4 := hid hB4
      have hblk := block_any (w := w3.alloc (.cells #[] 5)) (H3.out.below ((Below.refl _ w3).alloc (Nat.le_refl _) _)) n (by rw [e3]; exact hn)
      rw [e2, e3] at hblk
      have HBK := hid hblk
      clear e1 e2 e3 hsl hrow hB4 hblk
      go_wp2_with (first | (go_at_call 68; refine HBK.out.mono ?_; rintro e w5 ⟨rfl, rfl⟩) | (at_builtin; refine wpList_append_run _ rfl (.tmp 34) (.tmp 37) 22 22 rfl _ _ rfl rfl hrun ?_))
      go_ret2
      rw [HR.out, if_pos hrb]
      exact ⟨_, rfl, H3.out.below HB4.out, (U1.out.trans U3.out fun _ _ h => h).trans (Upd.of_new HB4.out) fun _ _ h => h, HROW.out, fun h => absurd rfl h⟩
end Go.Proofs.Ytkhejipcclpknaa
