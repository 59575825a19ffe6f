/- The walk of Read. No statement is proved here. -/
import Derived.Test.YtkhejipcclpknaaTF
import Derived.Test.YtkhejipcclpknaaTD
import Derived.Deep.LoopGhost
import Derived.Deep.DeepCutAuto
import Derived.Deep.RegionLaw
set_option linter.unusedVariables false
set_option linter.unusedSimpArgs false
namespace Go.Proofs.Ytkhejipcclpknaa
open Go.RowKit

theorem cf_region (A : Array Value) (b : Int) (w : World) : Sem.run Try.prog (callFunc 105 #[.agg A, .int .i64 b]) w = .ok (.enter 105 #[.agg A, .int .i64 b]) w := by kernel_rfl
theorem cf_chain (A : Array Value) (b : Int) (w : World) : Sem.run Try.prog (callFunc 102 #[.agg A, .int .i64 b]) w = .ok (.enter 102 #[.agg A, .int .i64 b]) w := by kernel_rfl
theorem fetch_any {w : World} {p : Nat} {d : Dl} {oc o : Option Nat} {R : Rd} {D : Dv} (h : Rh w p d oc o R D) (hok : RdOk R D) {b : Nat} (hb : b * D.unit < R.size) : ∃ T A F, w.cell? ⟨p, 0, none⟩ = some (.iface T (.agg A)) ∧
    (∀ W, Sem.run Try.prog (method 285 T (.agg A) "proctor/stream.block") W = .ok (F, .agg A) W) ∧ (∀ W, Sem.run Try.prog (callFunc F #[.agg A, .int .i64 (b : Int)]) W = .ok (.enter F #[.agg A, .int .i64 (b : Int)]) W) ∧ Calls Try.prog F #[.agg A, .int .i64 (b : Int)] w (RdPost w d (R.fetch D b)) := by
  obtain ⟨vc, v, e1, e2, h1, h2, h3⟩ := h.rd.ex
  have hs := hok.src
  cases hc : R.chain with
  | none =>
    refine ⟨99, #[.pointer (some ⟨d.g, 0, none⟩)], 105, (blk_cell h1 0).trans (by rw [hc]; rfl), fun W => m_region _ W, fun W => cf_region _ _ W, ?_⟩
    have := region_any h.dv (b : Int)
    have e : R.fetch D b = D.readIn (b : Int) := by unfold Rd.fetch; rw [hc]
    rw [e]
    exact this
  | some l =>
    rw [hc] at hs h2
    simp only at hs
    have hbl : b < l.length := Nat.lt_of_mul_lt_mul_right (Nat.lt_of_lt_of_le hb hs.1)
    refine ⟨93, #[.pointer (some ⟨d.g, 0, none⟩), vc], 102, (blk_cell h1 0).trans (by rw [hc]; rfl), fun W => m_chain _ _ W, fun W => cf_chain _ _ W, ?_⟩
    have := chain_any h.dv h2 b hbl hs.2.2 (fun k hk => h.ap k (.inr (.inl (by rw [← e1]; exact hk))))
    have e : R.fetch D b = D.readSc ((l[b] : Nat) : Int) := by
      unfold Rd.fetch
      rw [hc]
      show D.readSc (((l[b]?).getD 0 : Nat) : Int) = _
      rw [List.getElem?_eq_getElem hbl]
      rfl
    rw [e]
    exact this
theorem rd_pos {w : World} {p g : Nat} {oc o : Option Nat} {R : Rd} (h : RdM w p g oc o R) (z : Nat) : RdM (w.setCell ⟨p, 3, none⟩ (.int .i64 (z : Int))) p g oc o { R with pos := z } := by
  obtain ⟨vc, v, e1, e2, h1, h2, h3⟩ := h.ex
  refine ⟨⟨vc, v, e1, e2, heap_setCell_same w p 3 _ _ (.int .i64 (z : Int)) h1, own_same h2 fun k hk => ?_, own_same h3 fun k hk => ?_⟩, h.ap⟩
  · exact Below.heap_setCell w ⟨p, 3, none⟩ _ k fun e => h.ap.1 (by rw [← e1, hk]; exact congrArg some e)
  · exact Below.heap_setCell w ⟨p, 3, none⟩ _ k fun e => h.ap.2.1 (by rw [← e2, hk]; exact congrArg some e)
theorem rd_hold {w : World} {p g : Nat} {oc o : Option Nat} {R : Rd} (h : RdM w p g oc o R) {B : Nat} {v : Value} {l : List Int} (hv : w.ownsRow B 5 1 v l.length (cellsB l)) (hB : ∀ k, rS p oc none k → k < B) (b : Int) : RdM ((w.setCell ⟨p, 5, none⟩ v).setCell ⟨p, 4, none⟩ (.int .i64 b)) p g oc v.ownBlock { R with buf := l, held := b } := by
  obtain ⟨vc, v0, e1, e2, h1, h2, h3⟩ := h.ex
  have hvb : ∀ k, v.ownBlock = some k → B ≤ k := fun k hk => by
    rcases hv.2 with ⟨rfl, _⟩ | ⟨b, cap, cur, rfl, hb, _⟩
    · cases hk
    · cases hk
      exact hb
  have hne : ∀ k, k ≠ p → ((w.setCell ⟨p, 5, none⟩ v).setCell ⟨p, 4, none⟩ (.int .i64 b)).heap[k]? = w.heap[k]? := fun k hk => (Below.heap_setCell _ ⟨p, 4, none⟩ _ k hk).trans (Below.heap_setCell w ⟨p, 5, none⟩ _ k hk)
  have hvp : v.ownBlock ≠ some p := fun e => by
    have := hvb p e
    have := hB p (.inl rfl)
    omega
  refine ⟨⟨vc, v, e1, rfl, heap_setCell_same _ p 4 _ _ (.int .i64 b) (heap_setCell_same w p 5 _ _ v h1), own_same h2 fun k hk => hne k fun e => h.ap.1 (by rw [← e1, hk, e]), ?_⟩, h.ap.1, hvp, fun k hk hk' => ?_⟩
  · exact own_same ⟨hv.1, hv.2.imp id fun ⟨g, cap, cur, k1, k2, k3⟩ => ⟨g, cap, cur, k1, Nat.zero_le _, k3⟩⟩ fun k hk => hne k fun e => hvp (by rw [hk, e])
  · have := hvb k hk'
    have := hB k (.inr (.inl hk))
    omega
theorem rd_fault {w : World} {p g : Nat} {oc o : Option Nat} {R : Rd} (h : RdM w p g oc o R) (c : Int) : RdM ((w.setCell ⟨p, 6, none⟩ (.int .i64 c)).setCell ⟨p, 5, none⟩ (.slice none 0 0)) p g oc none { R with fault := c, buf := [] } := by
  obtain ⟨vc, v0, e1, e2, h1, h2, h3⟩ := h.ex
  have hne : ∀ k, k ≠ p → ((w.setCell ⟨p, 6, none⟩ (.int .i64 c)).setCell ⟨p, 5, none⟩ (.slice none 0 0)).heap[k]? = w.heap[k]? := fun k hk => (Below.heap_setCell _ ⟨p, 5, none⟩ _ k hk).trans (Below.heap_setCell w ⟨p, 6, none⟩ _ k hk)
  exact ⟨⟨vc, .slice none 0 0, e1, rfl, heap_setCell_same _ p 5 _ _ _ (heap_setCell_same w p 6 _ _ _ h1), own_same h2 fun k hk => hne k fun e => h.ap.1 (by rw [← e1, hk, e]), World.ownsRow_nil _ _ _ _⟩, h.ap.1, by simp, by simp⟩
/-- The answer that grows. -/
structure OutR (w : World) (B : Nat) (o : Option Nat) (a : Option Addr) (n c : Nat) (out : List Int) : Prop where
  len : n = out.length
  own : w.ownsRow B 5 1 (.slice a n c) n (cellsB out)
  ne : ∀ k, (Value.slice a n c).ownBlock = some k → o ≠ some k
theorem OutR.le {w : World} {B : Nat} {o : Option Nat} {a : Option Addr} {n c : Nat} {out : List Int} (h : OutR w B o a n c out) : ∀ k, (Value.slice a n c).ownBlock = some k → B ≤ k ∧ k < w.heap.size := fun k hk => by
  rcases h.own.2 with ⟨hh, _⟩ | ⟨b, cap, cur, hh, hb, hg, _⟩
  · rw [hh] at hk; cases hk
  · rw [hh] at hk
    cases hk
    exact ⟨hb, blk_lt hg⟩
theorem OutR.kept {w w' : World} {B : Nat} {o o' : Option Nat} {a : Option Addr} {n c : Nat} {out : List Int} (h : OutR w B o a n c out) (hb : ∀ k, B ≤ k → k < w.heap.size → o ≠ some k → w'.heap[k]? = w.heap[k]?) (ho : ∀ k, B ≤ k → k < w.heap.size → o ≠ some k → o' ≠ some k) : OutR w' B o' a n c out :=
  ⟨h.len, own_same h.own fun k hk => hb k (h.le k hk).1 (h.le k hk).2 (h.ne k hk), fun k hk => ho k (h.le k hk).1 (h.le k hk).2 (h.ne k hk)⟩
/-- What stands behind region 18's append. -/
structure OutRun (w : World) (B : Nat) (o : Option Nat) (a : Option Addr) (n c : Nat) (out : List Int) (src : Addr) (k cs : Nat) (l : List Int) (a' : Option Addr) (c' : Nat) (w1 : World) : Prop where
  run : (Builtin.append_ #[22, 22] 22 #[.slice a n c, .slice (some src) k cs]).run Try.prog w = .ok (.slice a' (n + k) c') w1
  out : OutR w1 B o a' (n + k) c' (out ++ l)
  gr : w.grownBy w1 (Value.slice a n c).ownBlock
theorem out_run {w : World} {B : Nat} {o : Option Nat} {a : Option Addr} {n c : Nat} {out : List Int} (h : OutR w B o a n c out) (hB : B ≤ w.heap.size) (ho : ∀ k, o = some k → k < w.heap.size) (q off k cs : Nat) (l : List Int) (hk : l.length = k) (hb : BytesAt w q off l) (hl : n + k ≤ 1000000) : ∃ a' c' w1, OutRun w B o a n c out ⟨q, off, none⟩ k cs l a' c' w1 := by
  obtain ⟨ti, hi, hz0, hz1, hz2⟩ := info_parts infoB
  obtain ⟨v', w1, k1, k2, k3, k4⟩ := run_append_own3 w B 22 22 5 ti (.int .u8 0) 1 1 Try.underlying22 hi hz0 hz1 hz2 rfl _ _ _ h.own ⟨q, off, none⟩ k cs (cellsB l) (by rw [cellsB_length, hk, Nat.mul_one]) (fun j u hj => by
    have hj' : j < l.length := by
      have := (List.getElem?_eq_some_iff.1 hj).1
      rwa [cellsB_length] at this
    rw [cellsB_get l j hj'] at hj
    rw [Addr.add_lit]
    exact (hb j hj').trans hj) (cellsB_one l) (by unfold maxLen; omega) (by omega) hB
  obtain ⟨a', c', rfl⟩ := own_slc k2
  refine ⟨a', c', w1, k1, ⟨by rw [List.length_append, hk, ← h.len], ?_, fun j hj hj' => ?_⟩, k3⟩
  · have e3 : cellsB (out ++ l) = cellsB out ++ cellsB l := by simp [cellsB]
    rw [e3]
    exact k2
  · rcases k4 with k4 | ⟨k4, _⟩
    · exact h.ne j (k4.symm.trans hj) hj'
    · have := ho j hj'
      rw [k4] at hj
      cases hj
      omega
def ReadPost (w : World) (p : Nat) (d : Dl) (oc o : Option Nat) (r : Int × List Int × Rd × Dv) (e : Ending) (w' : World) : Prop :=
  ∃ v o1, e = .returned (.tuple #[v, .int .i64 r.1]) ∧ w'.ownsRow w.heap.size 5 1 v r.2.1.length (cellsB r.2.1) ∧ (∀ k, v.ownBlock = some k → o1 ≠ some k) ∧ Rh w' p d oc o1 r.2.2.1 r.2.2.2 ∧ RhStep w w' p d oc o o1
set_option maxHeartbeats 8000000 in
set_option maxRecDepth 100000 in
theorem read_bytes {w : World} {p : Nat} {d : Dl} {oc o : Option Nat} {R : Rd} {D : Dv} (h : Rh w p d oc o R D) (hok : RdOk R D) (m : Int) (hm : -9223372036854775808 ≤ m ∧ m ≤ 9223372036854775807) :
    Calls Try.prog 19 #[.pointer (some ⟨p, 0, none⟩), .int .i64 m] w (ReadPost w p d oc o (rRead R D m)) := by
  have H := hid h
  have HOK := hid hok
  have c6 : w.cell? ⟨p, 6, none⟩ = some (.int .i64 R.fault) := by
    obtain ⟨vc, v, e1, e2, h1, h2, h3⟩ := h.rd.ex
    exact (blk_cell h1 6).trans rfl
  clear h hok hm
  obtain ⟨f, hf⟩ : ∃ f, f = R.fault := ⟨_, rfl⟩
  rw [← hf] at c6
  have HF := hid hf
  clear hf
  by_cases hf0 : f = 0
  · subst hf0
    by_cases hm : m < 0 ∨ 65536 < m
    · have HR : Hid (rRead R D m = (81, [], R, D)) := hid (by unfold rRead; rw [if_neg (by rw [← HF.out]; simp), if_pos hm])
      by_cases hm0 : m < 0
      · clear hm
        go_enter Try.func19, Try.ntmps19
        go_wp2_with fail
        go_ret2
        rw [HR.out]
        exact ⟨_, o, rfl, World.ownsRow_nil _ _ _ _, fun k hk => (by cases hk), H.out, RhStep.refl _ _ _ _ _⟩
      · have hm1 : 65536 < m := by omega
        clear hm
        go_enter Try.func19, Try.ntmps19
        go_wp2_with fail
        go_ret2
        rw [HR.out]
        exact ⟨_, o, rfl, World.ownsRow_nil _ _ _ _, fun k hk => (by cases hk), H.out, RhStep.refl _ _ _ _ _⟩
    · obtain ⟨mn, rfl⟩ := Int.eq_ofNat_of_zero_le (show 0 ≤ m by omega)
      have hmn : mn ≤ 65536 := by omega
      obtain ⟨S, hS⟩ : ∃ S, S = R.size := ⟨_, rfl⟩
      obtain ⟨P0, hP⟩ : ∃ P0, P0 = R.pos := ⟨_, rfl⟩
      obtain ⟨U, hU⟩ : ∃ U, U = R.unit := ⟨_, rfl⟩
      obtain ⟨L0, hL0⟩ : ∃ L0, L0 = S - P0 := ⟨_, rfl⟩
      obtain ⟨N, hN⟩ : ∃ N, N = min mn L0 := ⟨_, rfl⟩
      obtain ⟨Z, hZ⟩ : ∃ Z, Z = P0 + N := ⟨_, rfl⟩
      have hps : P0 ≤ S := by rw [hP, hS]; exact HOK.out.pos
      have hs9 : S ≤ 1000000000 := by rw [hS]; exact HOK.out.sz
      have HR : Hid (rRead R D mn = if (rdRun R D P0 Z []).1 = 0 then (0, (rdRun R D P0 Z []).2.1, { (rdRun R D P0 Z []).2.2.1 with pos := Z }, (rdRun R D P0 Z []).2.2.2) else ((rdRun R D P0 Z []).1, [], (rdRun R D P0 Z []).2.2.1, (rdRun R D P0 Z []).2.2.2)) := hid (by
        unfold rRead
        rw [if_neg (by rw [← HF.out]; simp), if_neg hm, show ((mn : Int)).toNat = mn by omega, ← hP, ← hS, ← hL0, ← hN, ← hZ])
      have c2 : w.cell? ⟨p, 2, none⟩ = some (.int .i64 (S : Int)) := by
        obtain ⟨vc, v, e1, e2, h1, h2, h3⟩ := H.out.rd.ex
        exact (blk_cell h1 2).trans (by rw [hS]; rfl)
      have c3 : w.cell? ⟨p, 3, none⟩ = some (.int .i64 (P0 : Int)) := by
        obtain ⟨vc, v, e1, e2, h1, h2, h3⟩ := H.out.rd.ex
        exact (blk_cell h1 3).trans (by rw [hP]; rfl)
      have hw5 : IntKind.i64.wrap ((S : Int) - (P0 : Int)) = (L0 : Int) := by
        rw [show (S : Int) - (P0 : Int) = (L0 : Int) by omega]
        exact wrap_id (by omega) (by omega)
      have hmin : (if L0 < mn then (L0 : Int) else (mn : Int)) = (N : Int) := by split <;> omega
      have hz : IntKind.i64.wrap ((P0 : Int) + (N : Int)) = (Z : Int) := by
        rw [show (P0 : Int) + (N : Int) = (Z : Int) by omega]
        exact wrap_id (by omega) (by omega)
      have hm0 : ¬ (mn : Int) < 0 := by omega
      have hm1 : ¬ 65536 < mn := by omega
      have hN6 : N ≤ 65536 := by omega
      have HZ := hid (And.intro hZ (And.intro hN6 (And.intro hs9 (And.intro hps (And.intro hP (And.intro hS (And.intro hU (And.intro hL0 hN))))))))
      obtain ⟨ti, hi, hz0, hz1, hz2⟩ := info_parts infoB
      have hmk : ∀ u : World, (Instr.makeSlice 22 (.int .i64 0) (.int .i64 (N : Int))).run Try.prog u = .ok (.slice (some ⟨u.heap.size, 0, none⟩) 0 N) (u.alloc (.cells (madeCells #[.int .u8 0] N) 5)) := fun u => by
        have h := run_make (P := Try.prog) u 22 5 ti _ Try.underlying22 hi hz0 .i64 .i64 0 (N : Int) (by omega) (by omega) (by rw [hz2]; omega) (by omega)
        rw [hz1] at h
        simpa [Value.cells] using h
      clear hm hP hS hU hL0 hN hZ hs9 hps hN6 hi hz0 hz1 hz2
      go_enter Try.func19, Try.ntmps19
      go_upto_region 5 with fail
      go_still (by kernel_rfl)
      generalize hwd : ({ heap := w.heap, tape := w.tape, drawn := w.drawn + 1, os := w.os, output := w.output } : World) = w1
      have hwd' : w.drew = w1 := hwd
      have c3 : w1.cell? ⟨p, 3, none⟩ = some (.int .i64 (P0 : Int)) := by rw [← hwd']; exact c3
      have hbd : Below w.heap.size w w1 := by rw [← hwd']; exact (Below.refl _ w).drew
      have hal := hbd.alloc hbd.size (.cells (madeCells #[.int .u8 0] N) 5)
      have hal1 := (Below.refl _ w1).alloc (Nat.le_refl _) (.cells (madeCells #[.int .u8 0] N) 5)
      have H1 := hid (H.out.below hal)
      have hdl := H.out.dv.lt
      have hrl := H.out.rd.lt
      have HO : Hid (OutR (w1.alloc (.cells (madeCells #[.int .u8 0] N) 5)) w.heap.size o (some ⟨w1.heap.size, 0, none⟩) 0 N []) := hid ⟨rfl, ⟨rfl, .inr ⟨w1.heap.size, N, _, rfl, hbd.size, heap_alloc_new w1 _, Nat.zero_le _, by unfold maxLen; have := HZ.out.2.1; omega, by rw [size_madeCells]; simp, rfl⟩⟩, fun k hk hk' => by
        have e1 : w1.heap.size = k := Option.some.inj hk
        have := hrl k (.inr (.inr hk'))
        have := hbd.size
        omega⟩
      have HST0 : Hid (RhStep w (w1.alloc (.cells (madeCells #[.int .u8 0] N) 5)) p d oc o o) := hid (RhStep.below hal)
      have k3 := (hal1.cell (p := ⟨p, 3, none⟩) (Nat.lt_of_lt_of_le (hrl p (.inl rfl)) hbd.size)).trans c3
      clear hwd hwd' hbd c2 hal hal1 hdl hrl
      go_wp2_with fail
      clear c3 k3 c6 hmk hm0 hm1 hmn hw5 hmin
      obtain ⟨w2, hw2⟩ : ∃ w2, w1.alloc (.cells (madeCells #[.int .u8 0] N) 5) = w2 := ⟨_, rfl⟩
      obtain ⟨q6, hq6⟩ : ∃ q6, q6 = w1.heap.size := ⟨_, rfl⟩
      rw [← hq6, hw2] at HO
      rw [hw2] at H1 HST0
      rw [← hq6, hw2]
      clear hw2 hq6
      go_loopg [6, 7] N (fun gh s6 s7 wr => ∃ (R' : Rd) (D' : Dv) (o1 : Option Nat) (a : Nat) (out : List Int) (a6 : Option Addr) (n6 c6 : Nat), Z - a = gh ∧ P0 ≤ a ∧ a ≤ Z ∧ s7 = .int .i64 (a : Int) ∧ s6 = .slice a6 n6 c6 ∧ Hid (n6 = a - P0) ∧ Hid (OutR wr w.heap.size o1 a6 n6 c6 out) ∧ Hid (Rh wr p d oc o1 R' D') ∧ Hid (RhStep w wr p d oc o o1) ∧ Hid (RdOk R' D') ∧ Hid (R'.pos = P0 ∧ R'.size = S ∧ R'.unit = U) ∧ Hid (rdRun R D P0 Z [] = rdRun R' D' a Z out))
      case atStart => exact ⟨R, D, o, P0, [], _, 0, N, by have := HZ.out.1; omega, Nat.le_refl _, by have := HZ.out.1; omega, rfl, rfl, hid (by omega), HO, H1, HST0, HOK, hid ⟨HZ.out.2.2.2.2.1.symm, HZ.out.2.2.2.2.2.1.symm, HZ.out.2.2.2.2.2.2.1.symm⟩, hid rfl⟩
      case round =>
        clear HO H1 HST0
        obtain ⟨R', D', o1, a, out, a6, n6, c6, rfl, ha0, haZ, rfl, rfl, HN6, HO, H1, ST1, HOK', HKP, HRN⟩ := hrel
        have c3 : wr.cell? ⟨p, 3, none⟩ = some (.int .i64 (P0 : Int)) := by
          obtain ⟨vc, v, e1, e2, h1, h2, h3⟩ := H1.out.rd.ex
          exact (blk_cell h1 3).trans (by rw [← HKP.out.1]; rfl)
        by_cases haz : a < Z
        · have hazI : (a : Int) < (Z : Int) := by omega
          have HAZ := hid (And.intro haz (And.intro ha0 haZ))
          have hu0 := H1.out.dv.u0
          have hu1 := H1.out.dv.u1
          have hml := H1.out.dv.ml
          rw [← HOK'.out.u, HKP.out.2.2] at hu0 hu1
          obtain ⟨b, hb⟩ : ∃ b, b = a / U := ⟨_, rfl⟩
          obtain ⟨i, hi⟩ : ∃ i, i = a % U := ⟨_, rfl⟩
          have hdm : b * U + i = a := by rw [hb, hi, Nat.mul_comm]; exact Nat.div_add_mod a U
          have hiU : i < U := by rw [hi]; exact Nat.mod_lt a (by omega)
          have hZS : Z ≤ S := by have := HZ.out; omega
          have hS9 := HZ.out.2.2.1
          have hbS : b * D'.unit < R'.size := by rw [← HOK'.out.u, HKP.out.2.2, HKP.out.2.1]; omega
          have hbb : b ≤ a := by rw [hb]; exact Nat.div_le_self _ _
          obtain ⟨T, A, FN, c0, hM, hE, hCF⟩ := fetch_any H1.out HOK'.out hbS
          have HCF := hid hCF
          have hd1 : (a : Int).tdiv (U : Int) = (b : Int) := by rw [hb]; exact Int.ofNat_tdiv a U
          have hd2 : (a : Int).tmod (U : Int) = (i : Int) := by rw [hi]; exact Int.ofNat_tmod a U
          have hw1 : IntKind.i64.wrap (b : Int) = (b : Int) := wrap_id (by omega) (by omega)
          have hw2 : IntKind.i64.wrap (i : Int) = (i : Int) := wrap_id (by omega) (by omega)
          have hU0 : ¬ (U : Int) = 0 := by omega
          obtain ⟨hh, hhe⟩ : ∃ hh, hh = R'.held := ⟨_, rfl⟩
          have c1 : wr.cell? ⟨p, 1, none⟩ = some (.int .i64 (U : Int)) := by
            obtain ⟨vc, v, e1, e2, h1, h2, h3⟩ := H1.out.rd.ex
            exact (blk_cell h1 1).trans (by rw [← HKP.out.2.2]; rfl)
          have c4 : wr.cell? ⟨p, 4, none⟩ = some (.int .i64 hh) := by
            obtain ⟨vc, v, e1, e2, h1, h2, h3⟩ := H1.out.rd.ex
            exact (blk_cell h1 4).trans (by rw [hhe]; rfl)
          have HHE := hid hhe
          have HBS := hid hbS
          have HDM := hid (And.intro hdm (And.intro hiU (And.intro hZS (And.intro hu0 (And.intro hu1 (And.intro hml (And.intro hb hi)))))))
          clear haz ha0 haZ hu0 hu1 hml hb hi hdm hiU hZS hS9 hbS hbb hCF hhe
          go_upto_if 64 with fail
          clear hd1
          go_cut [6, 7, 8] (fun s6 s7 s8 wx => s6 = .slice a6 n6 c6 ∧ s7 = .int .i64 (a : Int) ∧ s8 = .int .i64 (b : Int) ∧ ∃ (R1 : Rd) (D1 : Dv) (o2 : Option Nat), Hid (R'.hold D' b = (0, R1, D1)) ∧ Hid (Rh wx p d oc o2 R1 D1) ∧ Hid (RhStep w wx p d oc o o2) ∧ Hid (OutR wx w.heap.size o2 a6 n6 c6 out))
          case first =>
            by_cases hbh : (b : Int) = hh
            · have b1 : ((b : Int) == hh) = true := by rw [hbh]; exact beq_self_eq_true _
              have HHO : Hid (R'.hold D' b = (0, R', D')) := hid (by unfold Rd.hold; rw [← HHE.out, if_pos hbh])
              clear hbh
              go_wp2_with fail
              go_meet
              case rel => exact ⟨rfl, rfl, rfl, R', D', o1, HHO, H1, ST1, HO⟩
            · have b1 : ((b : Int) == hh) = false := beq_eq_false_iff_ne.mpr hbh
              have HHO : Hid (R'.hold D' b = if (R'.fetch D' b).1 = 0 then (0, { R' with buf := (R'.fetch D' b).2.1, held := (b : Int) }, (R'.fetch D' b).2.2) else ((R'.fetch D' b).1, { R' with fault := (R'.fetch D' b).1, buf := [] }, (R'.fetch D' b).2.2)) := hid (by
                conv => lhs; unfold Rd.hold
                rw [← HHE.out, if_neg hbh])
              clear hbh
              obtain ⟨rr, hrr⟩ : ∃ rr, rr = R'.fetch D' b := ⟨_, rfl⟩
              rw [← hrr] at HHO HCF
              clear hrr
              obtain ⟨rc, rb, rD⟩ := rr
              go_upto_region 12 with (refine HCF.out.mono ?_; rintro e w3 ⟨v, rfl, hdv, hup, hrow, hnil⟩)
              clear hM hE c0 c1 c3 c4
              have hpl1 := H1.out.rd.lt p (.inl rfl)
              have ST3 : Hid (RhStep wr w3 p d oc o1 o1) := hid ⟨Heir.refl _ _, hup.mono fun k _ h => .inr h⟩
              have HRD3 := hid (H1.out.rd.upd hup H1.out.ap)
              have H3 := hid (H1.out.next ST3.out HRD3.out hdv)
              have ST13 := hid (ST1.out.trans ST3.out)
              have HO3 := hid (HO.out.kept (w' := w3) (o' := o1) (fun k hk hk2 _ => hup.block k hk2 fun hd => by have := H.out.dv.lt k hd; omega) fun k _ _ h => h)
              have HROW := hid hrow
              have HUP := hid hup
              have HNIL := hid hnil
              have y6 : w3.cell? ⟨p, 6, none⟩ = some (.int .i64 R'.fault) := by
                obtain ⟨vc, v, e1, e2, h1, h2, h3⟩ := HRD3.out.ex
                exact (blk_cell h1 6).trans rfl
              obtain ⟨v5, y5⟩ : ∃ v5, w3.cell? ⟨p, 5, none⟩ = some v5 := by
                obtain ⟨vc, v, e1, e2, h1, h2, h3⟩ := HRD3.out.ex
                exact ⟨v, (blk_cell h1 5).trans rfl⟩
              have y4 : w3.cell? ⟨p, 4, none⟩ = some (.int .i64 R'.held) := by
                obtain ⟨vc, v, e1, e2, h1, h2, h3⟩ := HRD3.out.ex
                exact (blk_cell h1 4).trans rfl
              have z4 : w3.frozen? ⟨p, 4, none⟩ = false := by
                obtain ⟨vc, v, e1, e2, h1, h2, h3⟩ := HRD3.out.ex
                exact blk_free h1 4
              have z5 : w3.frozen? ⟨p, 5, none⟩ = false := by
                obtain ⟨vc, v, e1, e2, h1, h2, h3⟩ := HRD3.out.ex
                exact blk_free h1 5
              have z6 : w3.frozen? ⟨p, 6, none⟩ = false := by
                obtain ⟨vc, v, e1, e2, h1, h2, h3⟩ := HRD3.out.ex
                exact blk_free h1 6
              obtain ⟨a5, c5, hv5⟩ := own_slc hrow
              obtain ⟨n5, hn5⟩ : ∃ n5, n5 = rb.length := ⟨_, rfl⟩
              rw [← hn5] at hv5
              have HV5 := hid hv5
              subst hv5
              have HN5 := hid hn5
              have HPL := hid hpl1
              clear hdv hup hrow hnil hn5 hpl1
              by_cases hrc : rc = 0
              · subst hrc
                go_wp2_with fail
                have UP := hid (((Upd.refl (fun k => k = p) w3).setCell (p := ⟨p, 5, none⟩) (fun _ => rfl) (.slice a5 n5 c5)).setCell (p := ⟨p, 4, none⟩) (fun _ => rfl) (.int .i64 (b : Int)))
                have HRD5 := hid (rd_hold HRD3.out HROW.out (fun k hk => by
                  rcases hk with hk | hk | hk
                  · rw [hk]; exact HPL.out
                  · exact H1.out.rd.lt k (.inr (.inl hk))
                  · cases hk) (b : Int))
                have hvl : ∀ k, (Value.slice a5 n5 c5).ownBlock = some k → wr.heap.size ≤ k ∧ k < w3.heap.size := fun k hk => by
                  rcases HROW.out.2 with ⟨hh, _⟩ | ⟨b, cap, cur, hh, hb, hg, _⟩
                  · rw [hh] at hk; cases hk
                  · rw [hh] at hk
                    cases hk
                    exact ⟨hb, blk_lt hg⟩
                have ST5 : Hid (RhStep wr ((w3.setCell ⟨p, 5, none⟩ (.slice a5 n5 c5)).setCell ⟨p, 4, none⟩ (.int .i64 (b : Int))) p d oc o1 (Value.slice a5 n5 c5).ownBlock) := hid ⟨fun k hk => .inr (hvl k hk).1, ST3.out.up.trans UP.out fun k _ h => .inl (.inl h)⟩
                have H5 := hid (H1.out.next ST5.out HRD5.out (H3.out.dv.upd UP.out fun k hk h => H1.out.ap p (.inl rfl) (by rw [← h]; exact hk)))
                have HO5 := hid (HO.out.kept (w' := (w3.setCell ⟨p, 5, none⟩ (.slice a5 n5 c5)).setCell ⟨p, 4, none⟩ (.int .i64 (b : Int))) (o' := (Value.slice a5 n5 c5).ownBlock) (fun k hk hk2 hne => ST5.out.up.block k hk2 fun hh => by
                  rcases hh with (hh | hh | hh) | hh
                  · have := H.out.rd.lt p (.inl rfl); omega
                  · have := H.out.rd.lt k (.inr (.inl hh)); omega
                  · exact hne hh
                  · have := H.out.dv.lt k hh; omega) fun k hk hk2 hne hh => by
                  have := (hvl k hh).1
                  omega)
                go_meet
                case rel => exact ⟨rfl, rfl, rfl, _, _, _, hid (by rw [HHO.out]; rfl), H5, hid (ST1.out.trans ST5.out), HO5⟩
              · have b2 : (rc == 0) = false := beq_eq_false_iff_ne.mpr hrc
                have b3 : decide (rc = 0) = false := decide_eq_false hrc
                have HRC := hid hrc
                clear hrc
                go_wp2_with fail
                have UP := hid (((Upd.refl (fun k => k = p) w3).setCell (p := ⟨p, 6, none⟩) (fun _ => rfl) (.int .i64 rc)).setCell (p := ⟨p, 5, none⟩) (fun _ => rfl) (.slice none 0 0))
                have ST5 : Hid (RhStep wr ((w3.setCell ⟨p, 6, none⟩ (.int .i64 rc)).setCell ⟨p, 5, none⟩ (.slice none 0 0)) p d oc o1 none) := hid ⟨fun k hk => (by cases hk), ST3.out.up.trans UP.out fun k _ h => .inl (.inl h)⟩
                have H5 := hid (H1.out.next ST5.out (rd_fault HRD3.out rc) (H3.out.dv.upd UP.out fun k hk h => H1.out.ap p (.inl rfl) (by rw [← h]; exact hk)))
                have HE : rRead R D mn = (rc, [], { R' with fault := rc, buf := [] }, rD) := by
                  have hbu : b = a / R'.unit := by rw [HKP.out.2.2]; exact HDM.out.2.2.2.2.2.2.1
                  have q := HHO.out
                  rw [if_neg HRC.out] at q
                  have qq := rdRun_bad (R := R') (D := D') (out := out) HAZ.out.1 (by rw [← hbu, q]; exact HRC.out)
                  rw [← hbu, q] at qq
                  rw [HR.out, HRN.out, qq, if_neg (show ¬ rc = 0 from HRC.out)]
                go_ret2
                rw [HE]
                exact ⟨_, none, rfl, World.ownsRow_nil _ _ _ _, fun k hk => (by cases hk), H5.out, ST1.out.trans ST5.out⟩
          case rest =>
            clear c0 hM hE c1 c3 c4
            obtain ⟨rfl, rfl, rfl, R1, D1, o2, HHO, H2, ST2, HO2⟩ := hcut
            obtain ⟨x1, x2, x3, x4, x5, x6, x7, x8⟩ := HDM.out
            have hho := hold_ok HOK'.out x6 (by rw [← HOK'.out.u, HKP.out.2.2]; omega) HBS.out (by rw [HHO.out])
            rw [HHO.out] at hho
            obtain ⟨hok1, hlen, hps1, hsz1, hch1⟩ := hho
            simp only at hok1 hlen hps1 hsz1 hch1
            have hun1 : R1.unit = U := by
              have q := hold_unit R' D' b
              rw [HHO.out] at q
              exact q.trans HKP.out.2.2
            rw [← HOK'.out.u, HKP.out.2.2, HKP.out.2.1] at hlen
            obtain ⟨K, hK⟩ : ∃ K, K = rK R' a Z := ⟨_, rfl⟩
            obtain ⟨X, hX⟩ : ∃ X, X = Z - a := ⟨_, rfl⟩
            obtain ⟨Y, hY⟩ : ∃ Y, Y = U - i := ⟨_, rfl⟩
            have hKm : K = min X Y := by rw [hK, hX, hY, x8]; unfold rK; rw [HKP.out.2.2]
            obtain ⟨E, hEe⟩ : ∃ E, E = i + K := ⟨_, rfl⟩
            obtain ⟨hz1, hz2, hz3, hz4, hz5⟩ := HZ.out
            have haz := HAZ.out.1
            have hm1 : IntKind.i64.wrap ((Z : Int) - (a : Int)) = (X : Int) := by
              rw [show (Z : Int) - (a : Int) = (X : Int) by omega]
              exact wrap_id (by omega) (by omega)
            have hm2 : IntKind.i64.wrap ((U : Int) - (i : Int)) = (Y : Int) := by
              rw [show (U : Int) - (i : Int) = (Y : Int) by omega]
              exact wrap_id (by omega) (by omega)
            have hm3 : (if Y < X then (Y : Int) else (X : Int)) = (K : Int) := by split <;> omega
            have hm4 : IntKind.i64.wrap ((i : Int) + (K : Int)) = (E : Int) := by
              rw [show (i : Int) + (K : Int) = (E : Int) by omega]
              exact wrap_id (by omega) (by omega)
            have hm5 : IntKind.i64.wrap ((a : Int) + (K : Int)) = ((a + K : Nat) : Int) := by
              rw [show (a : Int) + (K : Int) = ((a + K : Nat) : Int) by omega]
              exact wrap_id (by omega) (by omega)
            have hK1 : 1 ≤ K := by omega
            have hEb : E ≤ R1.buf.length := by
              refine Nat.le_trans ?_ hlen
              rw [Nat.le_min]
              omega
            obtain ⟨bb, c5, cur5, hbl, hb5, hown5, hbk⟩ : ∃ (bb c5 : Nat) (cur5 : Nat), R1.buf.length ≤ c5 ∧ wc.cell? ⟨p, 5, none⟩ = some (.slice (some ⟨bb, 0, none⟩) R1.buf.length c5) ∧ BytesAt wc bb 0 R1.buf ∧ bb < wc.heap.size := by
              obtain ⟨vc, v, e1, e2, h1, h2, h3⟩ := H2.out.rd.ex
              rcases h3.2 with ⟨_, h0⟩ | ⟨bb, c5, cur5, rfl, _, hg, hle, _⟩
              · omega
              · exact ⟨bb, c5, 0, hle, (blk_cell h1 5).trans rfl, fun j hj => by
                  have := h3.cells (g := bb) rfl j _ (cellsB_get _ j hj)
                  rw [Addr.add_lit] at this
                  exact this, blk_lt hg⟩
            obtain ⟨B5, hB5⟩ : ∃ B5, B5 = R1.buf.length := ⟨_, rfl⟩
            rw [← hB5] at hbl hb5 hEb
            have c3 : wc.cell? ⟨p, 3, none⟩ = some (.int .i64 (P0 : Int)) := by
              obtain ⟨vc, v, e1, e2, h1, h2, h3⟩ := H2.out.rd.ex
              exact (blk_cell h1 3).trans (by rw [← HKP.out.1, ← hps1]; rfl)
            have c1 : wc.cell? ⟨p, 1, none⟩ = some (.int .i64 (U : Int)) := by
              obtain ⟨vc, v, e1, e2, h1, h2, h3⟩ := H2.out.rd.ex
              exact (blk_cell h1 1).trans (by rw [← hun1]; rfl)
            have hi0 : (0 : Int) ≤ (i : Int) := by omega
            have hiE : (i : Int) ≤ (E : Int) := by omega
            have hEc : (E : Int) ≤ (c5 : Int) := by omega
            have hEi : E - i = K := by omega
            have hc5 : ¬ c5 = i := by omega
            have hlk : ((R1.buf.drop i).take K).length = K := by rw [List.length_take, List.length_drop, ← hB5]; omega
            have HBY := hid (bytes_take (bytes_drop hown5 i) K)
            have HX := hid (And.intro hok1 (And.intro hps1 (And.intro hsz1 (And.intro hun1 (And.intro hK (And.intro hK1 (And.intro hlk (And.intro hbk hKm))))))))
            have hXa : K ≤ Z - a := by omega
            have HXA := hid hXa
            have HB5 := hid (And.intro hz2 (And.intro hz1 hX))
            clear x1 x2 x3 x4 x5 x6 x7 x8 hok1 hlen hps1 hsz1 hch1 hun1 hK hX hY hKm hEe hz1 hz2 hz3 hz4 hz5 haz hK1 hEb hbl hown5 hbk hB5 hlk hXa hazI
            go_upto_region 17 with fail
            go_still (by kernel_rfl)
            generalize hwd : ({ heap := wc.heap, tape := wc.tape, drawn := wc.drawn + 1, os := wc.os, output := wc.output } : World) = wd
            have hwd' : wc.drew = wd := hwd
            have k5 : wd.cell? ⟨p, 5, none⟩ = some (.slice (some ⟨bb, 0, none⟩) B5 c5) := by rw [← hwd']; exact hb5
            have hbd : Below wc.heap.size wc wd := by rw [← hwd']; exact (Below.refl _ wc).drew
            have HBY2 : Hid (BytesAt wd bb (0 + i) ((R1.buf.drop i).take K)) := hid (by rw [← hwd']; exact HBY.out)
            have H3 := hid (H2.out.below hbd)
            have ST3 := hid (ST2.out.trans (RhStep.below hbd))
            have HO3 : Hid (OutR wd w.heap.size o2 a6 n6 c6 out) := hid (HO2.out.kept (fun k _ hk2 _ => hbd.block k hk2) fun k _ _ h => h)
            clear hwd hwd' hbd c1 c3 hb5 hm1 hm2 hm3 hd2
            obtain ⟨a', c', w9, hor⟩ := out_run HO3.out ST3.out.up.size (fun k hk => H3.out.rd.lt k (.inr (.inr hk))) bb (0 + i) K (c5 - i) _ HX.out.2.2.2.2.2.2.1 HBY2.out (by have := HN6.out; have := HB5.out; have := HAZ.out; have := HXA.out; omega)
            rw [Nat.zero_add] at hor
            have HOR := hid hor
            have hrun := hor.run
            clear hor
            go_wp2_with (at_builtin; refine wpList_append_run _ rfl (.tmp 113) (.tmp 122) 22 22 rfl _ _ rfl rfl hrun ?_)
            have hol := HO3.out.le
            have UPg := Upd.of_grown HOR.out.gr
            have hnS : ∀ k, (rS p oc o2 k ∨ d.S k) → ¬ ((Value.slice a6 n6 c6).ownBlock = some k) := fun k hk e => by
              have hge := (hol k e).1
              rcases hk with (hk | hk | hk) | hk
              · have := H.out.rd.lt k (.inl hk); omega
              · have := H.out.rd.lt k (.inr (.inl hk)); omega
              · exact HO3.out.ne k e hk
              · have := H.out.dv.lt k hk; omega
            have H9 := hid (H3.out.beside UPg hnS)
            have ST9 : Hid (RhStep w w9 p d oc o o2) := hid ⟨ST3.out.h1, ST3.out.up.trans UPg fun k hk e => by have := (hol k e).1; omega⟩
            have HEQ : Hid (rdRun R D P0 Z [] = rdRun R1 D1 (a + K) Z (out ++ (R1.buf.drop i).take K)) := hid (by
              have hbu : b = a / R'.unit := by rw [HKP.out.2.2]; exact HDM.out.2.2.2.2.2.2.1
              have hiu : i = a % R'.unit := by rw [HKP.out.2.2]; exact HDM.out.2.2.2.2.2.2.2
              have q := rdRun_next (R := R') (D := D') (out := out) HAZ.out.1 (by rw [HKP.out.2.2]; have := HDM.out.2.2.2.1; omega) (by rw [← hbu, HHO.out])
              rw [← hbu, HHO.out, ← hiu, ← HX.out.2.2.2.2.1] at q
              rw [HRN.out, q])
            clear UPg hol hnS
            go_roundg (Z - (a + K))
            case measure => have := HX.out.2.2.2.2.2.1; have := HXA.out; have := HAZ.out.1; omega
            case rel => exact ⟨R1, D1, o2, a + K, _, a', n6 + K, c', rfl, by have := HAZ.out; omega, by have := HXA.out; have := HAZ.out; omega, rfl, rfl, hid (by have := HN6.out; have := HAZ.out; omega), HOR.out.out |> hid, H9, ST9, hid HX.out.1, hid ⟨HX.out.2.1.trans HKP.out.1, HX.out.2.2.1.trans HKP.out.2.1, HX.out.2.2.2.1⟩, HEQ⟩
        · have haz' : ¬ (a : Int) < (Z : Int) := by omega
          have HAZ := hid (show Z ≤ a by omega)
          have x3 : wr.frozen? ⟨p, 3, none⟩ = false := by
            obtain ⟨vc, v, e1, e2, h1, h2, h3⟩ := H1.out.rd.ex
            exact blk_free h1 3
          clear haz ha0 haZ
          go_wp2_with fail
          have UP := (Upd.refl (fun k => k = p) wr).setCell (p := ⟨p, 3, none⟩) (fun _ => rfl) (.int .i64 (Z : Int))
          have ST2 : RhStep wr (wr.setCell ⟨p, 3, none⟩ (.int .i64 (Z : Int))) p d oc o1 o1 := ⟨Heir.refl _ _, UP.mono fun k _ h => .inl (.inl h)⟩
          have H2 := H1.out.next ST2 (rd_pos H1.out.rd Z) (H1.out.dv.upd UP fun k hk h => H1.out.ap k (.inl h) hk)
          have hpl := H.out.rd.lt p (.inl rfl)
          have O2 : OutR (wr.setCell ⟨p, 3, none⟩ (.int .i64 (Z : Int))) w.heap.size o1 a6 n6 c6 out := HO.out.kept (fun k hk hk2 _ => UP.block k hk2 (fun e => by omega)) fun k _ _ h => h
          have HE : rRead R D mn = (0, out, { R' with pos := Z }, D') := by
            rw [HR.out, HRN.out, rdRun_done HAZ.out, if_pos rfl]
          go_ret2
          rw [HE]
          refine ⟨.slice a6 n6 c6, o1, rfl, ?_, O2.ne, H2, ST1.out.trans ST2⟩
          have q := O2.own
          rw [O2.len] at q ⊢
          exact q
  · have b1 : (f == 0) = false := beq_eq_false_iff_ne.mpr hf0
    have b2 : decide (f = 0) = false := decide_eq_false hf0
    have HR : Hid (rRead R D m = (f, [], R, D)) := hid (by unfold rRead; rw [if_pos (by rw [← HF.out]; exact hf0), ← HF.out])
    clear hf0
    go_enter Try.func19, Try.ntmps19
    go_upto_region 2 with fail
    go_still (by kernel_rfl)
    go_wp2_with fail
    go_ret2
    rw [HR.out]
    exact ⟨_, o, rfl, World.ownsRow_nil _ _ _ _, fun k hk => (by cases hk), H.out.below (Below.refl _ w).drew, RhStep.below (Below.refl _ w).drew⟩
end Go.Proofs.Ytkhejipcclpknaa
