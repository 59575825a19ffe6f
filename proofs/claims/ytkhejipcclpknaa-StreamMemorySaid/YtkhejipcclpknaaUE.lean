/- Writers and readers of a device without faults: the walks and the plain data together. No statement is proved here. -/
import Derived.Test.YtkhejipcclpknaaUD
import Derived.Test.YtkhejipcclpknaaSU
import Derived.Test.YtkhejipcclpknaaSV
import Derived.Test.YtkhejipcclpknaaTA
set_option linter.unusedVariables false
set_option linter.unusedSimpArgs false
namespace Go.Proofs.Ytkhejipcclpknaa
open Go.RowKit

theorem wg_inv {n : Nat} {W : Wt} {D : Dv} {F : Int → Bool} {acc : List Int} {full : List Nat} (h : WG n W D F acc full) {m : Nat} (hl : acc.length + m ≤ 500000) : WInv W D.unit m := by
  have hlen := h.len
  have hu := h.u0
  have hfl : full.length ≤ full.length * D.unit := Nat.le_mul_of_pos_right _ hu
  refine ⟨h.u, h.bu, fun hb => ?_, ?_, by rw [h.sz]; omega, by rw [h.sz]; omega⟩
  · rcases h.bk with ⟨e, _⟩ | ⟨_, b, e⟩
    · exact absurd e hb
    · rw [e]; simp
  · rcases h.bk with ⟨_, e⟩ | ⟨_, b, e⟩
    · rw [e]; omega
    · rw [e]; simp; omega
/-- A writer that may go on, and what it has taken. -/
structure WOn (w : World) (p s : Nat) (d : Dl) (o o' os : Option Nat) (n : Nat) (F : Int → Bool) (W : Wt) (D : Dv) (acc : List Int) (full : List Nat) : Prop where
  mem : Wh w p s d o o' os n F W D
  good : WG n W D F acc full
  fa : W.fault = 0
  cl : W.closed = false
  c0 : 0 ≤ D.cw
  c1 : D.cw ≤ 1000000000
theorem WOn.ready {w : World} {p s : Nat} {d : Dl} {o o' os : Option Nat} {n : Nat} {F : Int → Bool} {W : Wt} {D : Dv} {acc : List Int} {full : List Nat} (h : WOn w p s d o o' os n F W D acc full) : W.ready = 0 := by
  unfold Wt.ready
  rw [if_neg (by rw [h.cl]; simp), h.fa]
/-- What lies beside a writer stays. -/
theorem WhStep.out {w w' : World} {p s : Nat} {d : Dl} {o o' os o1 o1' os1 : Option Nat} (st : WhStep w w' p s d o o' os o1 o1' os1) {b : Nat} (hb : b < w.heap.size) (hn : ¬ allS p o o' d s os b) : w'.heap[b]? = w.heap[b]? ∧ ¬ allS p o1 o1' d s os1 b ∧ b < w'.heap.size :=
  ⟨st.up.block b hb hn, fun h => hn (allS_heir st.h1 st.h2 st.h3 b hb h), Nat.lt_of_lt_of_le hb st.up.size⟩
theorem Wh.lt {w : World} {p s : Nat} {d : Dl} {o o' os : Option Nat} {n : Nat} {F : Int → Bool} {W : Wt} {D : Dv} (h : Wh w p s d o o' os n F W D) : ∀ k, allS p o o' d s os k → k < w.heap.size := fun k hk => by
  rcases hk with hk | hk | hk | hk
  · exact h.wt.lt k hk
  · exact h.dv.lt k hk
  · rw [hk]; exact h.sp.lt.1
  · exact h.sp.lt.2 k hk
theorem src_of {w : World} {p s : Nat} {d : Dl} {o o' os : Option Nat} {a : Option Addr} {l : List Int} {c : Nat} (h : BytesIn w a l) (hc : l.length ≤ c) (hn : ∀ b x, a = some ⟨b, x, none⟩ → ¬ allS p o o' d s os b) : Src w p s d o o' os a c l :=
  ⟨hc, fun hne => by
    obtain ⟨b, x, e, hb, hby⟩ := h hne
    exact ⟨b, x, e, hb, hn b x e, hby⟩⟩
def WritOn (w : World) (p s : Nat) (d : Dl) (o o' os : Option Nat) (n : Nat) (F : Int → Bool) (W : Wt) (D : Dv) (acc l : List Int) (full : List Nat) (e : Ending) (w' : World) : Prop :=
  e = .returned (.int .i64 0) ∧ ∃ o1 o1' os1 F1 W1 D1 full1, WOn w' p s d o1 o1' os1 n F1 W1 D1 (acc ++ l) full1 ∧ WhStep w w' p s d o o' os o1 o1' os1 ∧ WSt D D1 F F1 W W1 ∧ D1.cw - full1.length = D.cw - full.length ∧ cntB F1 n + W1.blocks.length = cntB F n + W.blocks.length
theorem write_on {w : World} {p s : Nat} {d : Dl} {o o' os : Option Nat} {n : Nat} {F : Int → Bool} {W : Wt} {D : Dv} {acc : List Int} {full : List Nat} (h : WOn w p s d o o' os n F W D acc full) (l : List Int) (hl : acc.length + l.length ≤ 500000) (hr : ((acc.length + l.length : Nat) : Int) ≤ (cntB F n + W.blocks.length) * D.unit) (hcw : D.cw + l.length ≤ 1000000000) (a : Option Addr) (c : Nat) (hc : Src w p s d o o' os a c l) :
    Calls Try.prog 14 #[.pointer (some ⟨p, 0, none⟩), .slice a l.length c] w (WritOn w p s d o o' os n F W D acc l full) := by
  have hw := write_bytes h.mem h.ready l (wg_inv h.good hl) a c hc
  obtain ⟨W1, D1, F1, f1, j1, j2, j3, j4, j5, j6, j7⟩ := write_room n l.length l (Nat.le_refl _) W D F acc full h.good hr h.c0 (by omega)
  rw [j1] at hw
  refine hw.mono ?_
  rintro e w' ⟨rfl, o1, o1', os1, k1, k2⟩
  exact ⟨rfl, o1, o1', os1, F1, W1, D1, f1, ⟨k1, j2, j3.fa.trans h.fa, j3.cl.trans h.cl, Int.le_trans h.c0 j6, Int.le_trans j7 hcw⟩, k2, j3, j4, j5⟩
def ShortOn (w : World) (p s : Nat) (d : Dl) (o o' os : Option Nat) (n : Nat) (F : Int → Bool) (W : Wt) (e : Ending) (w' : World) : Prop :=
  e = .returned (.int .i64 42) ∧ ∃ o1 o1' os1 F1 W1 D1, Wh w' p s d o1 o1' os1 n F1 W1 D1 ∧ W1.ready = 42 ∧ W1.size = 0 ∧ WhStep w w' p s d o o' os o1 o1' os1 ∧ ∀ x, F1 x = (F x || W.blocks.any fun b => x == (b : Int))
theorem write_no {w : World} {p s : Nat} {d : Dl} {o o' os : Option Nat} {n : Nat} {F : Int → Bool} {W : Wt} {D : Dv} {acc : List Int} {full : List Nat} (h : WOn w p s d o o' os n F W D acc full) (l : List Int) (hl : acc.length + l.length ≤ 500000) (hr : (cntB F n + W.blocks.length) * D.unit < ((acc.length + l.length : Nat) : Int)) (a : Option Addr) (c : Nat) (hc : Src w p s d o o' os a c l) :
    Calls Try.prog 14 #[.pointer (some ⟨p, 0, none⟩), .slice a l.length c] w (ShortOn w p s d o o' os n F W) := by
  have hw := write_bytes h.mem h.ready l (wg_inv h.good hl) a c hc
  obtain ⟨W1, D1, F1, j1, j2, j3, j4, _⟩ := write_short n l.length l (Nat.le_refl _) W D F acc full h.good hr h.c0 (by have := h.c1; omega)
  rw [j1] at hw
  refine hw.mono ?_
  rintro e w' ⟨rfl, o1, o1', os1, k1, k2⟩
  refine ⟨rfl, o1, o1', os1, F1, W1.spoil 42, D1, k1, ?_, rfl, k2, j4⟩
  unfold Wt.ready Wt.spoil
  rw [if_neg (by simp)]
def CloseOn (w : World) (p s : Nat) (d : Dl) (o o' os : Option Nat) (n : Nat) (F : Int → Bool) (W : Wt) (D : Dv) (acc : List Int) (full : List Nat) (e : Ending) (w' : World) : Prop :=
  ∃ v o1 o1' os1 W1 D1, e = .returned (.tuple #[.agg #[v, .int .i64 (acc.length : Int)], .int .i64 0]) ∧ w'.ownsRow 0 3 1 v W.blocks.length (cellsN W.blocks) ∧ (∀ k, v.ownBlock = some k → w.heap.size ≤ k ∧ ¬ allS p o1 o1' d s os1 k) ∧ Wh w' p s d o1 o1' os1 n F W1 D1 ∧ WhStep w w' p s d o o' os o1 o1' os1 ∧ W1.ready = 82 ∧ W1.size = W.size ∧
    NoF D1 ∧ D1.mem.length = D1.unit * D1.scr ∧ WSt D D1 F F W W ∧ FG D1 W.blocks acc ∧ D1.cw = D.cw - full.length + W.blocks.length
theorem close_on {w : World} {p s : Nat} {d : Dl} {o o' os : Option Nat} {n : Nat} {F : Int → Bool} {W : Wt} {D : Dv} {acc : List Int} {full : List Nat} (h : WOn w p s d o o' os n F W D acc full) (hl : acc.length ≤ 500000) :
    Calls Try.prog 16 #[.pointer (some ⟨p, 0, none⟩)] w (CloseOn w p s d o o' os n F W D acc full) := by
  have hw := close_any h.mem h.ready (wg_inv h.good (m := 0) hl)
  obtain ⟨W1, D1, j1, j2, j3, j4, j5, j6, j7, j8, j9⟩ := close_room h.good h.c0 (by have := h.c1; omega)
  rw [j1] at hw
  refine hw.mono ?_
  rintro e w' ⟨v, o1, o1', os1, rfl, k1, k2, k3, k4⟩
  refine ⟨v, o1, o1', os1, W1, D1, rfl, k1, k2, k3, k4, ?_, j4, j5, j6, j7, j8, j9⟩
  unfold Wt.ready
  rw [if_pos ⟨by rw [j3]; exact h.fa, j2⟩]
/-- A reader that may go on. -/
structure ROn (w : World) (p : Nat) (d : Dl) (oc o : Option Nat) (R : Rd) (D : Dv) (c : List Int) : Prop where
  mem : Rh w p d oc o R D
  good : RC R D c
  fa : R.fault = 0
  hh : R.held = hd D.unit R.pos
def cOk (D : Dv) : Prop := 0 ≤ D.ci ∧ D.ci ≤ 1000000000 ∧ 0 ≤ D.cs ∧ D.cs ≤ 1000000000
def ReadOn (w : World) (p : Nat) (d : Dl) (oc o : Option Nat) (R : Rd) (D : Dv) (c : List Int) (m : Nat) (e : Ending) (w' : World) : Prop :=
  ∃ v o1 R1 D1, e = .returned (.tuple #[v, .int .i64 0]) ∧ w'.ownsRow w.heap.size 5 1 v ((c.drop R.pos).take m).length (cellsB ((c.drop R.pos).take m)) ∧ (∀ k, v.ownBlock = some k → o1 ≠ some k) ∧ ROn w' p d oc o1 R1 D1 c ∧ RhStep w w' p d oc o o1 ∧ R1.pos = R.pos + min m (R.size - R.pos) ∧ R1.size = R.size ∧ R1.chain = R.chain ∧ RSt R.chain.isSome (hd D.unit R1.pos - hd D.unit R.pos) D D1
theorem read_on {w : World} {p : Nat} {d : Dl} {oc o : Option Nat} {R : Rd} {D : Dv} {c : List Int} (h : ROn w p d oc o R D c) (hc : cOk D) (m : Nat) (hm : m ≤ 65536) :
    Calls Try.prog 19 #[.pointer (some ⟨p, 0, none⟩), .int .i64 (m : Int)] w (ReadOn w p d oc o R D c m) := by
  have hw := read_bytes h.mem h.good.ok (m : Int) (by omega)
  obtain ⟨R1, D1, j1, j2, j3, j4, j5, j6, j7, j8⟩ := read_nf h.good h.fa h.hh m hm hc
  rw [j1] at hw
  refine hw.mono ?_
  rintro e w' ⟨v, o1, rfl, k1, k2, k3, k4⟩
  exact ⟨v, o1, R1, D1, rfl, k1, k2, ⟨k3, j2, j7, by rw [j8.un]; exact j4⟩, k4, j3, j5, j6, j8⟩
def OpenOn (w : World) (d : Dl) (D : Dv) (l : List Nat) (c : List Int) (e : Ending) (w' : World) : Prop := ∃ p oc, e = .returned (.tuple #[.pointer (some ⟨p, 0, none⟩), .int .i64 0]) ∧ ROn w' p d (some oc) none ⟨D.unit, some l, c.length, 0, -1, [], 0⟩ D c ∧ w.heap.size ≤ p ∧ w.heap.size ≤ oc ∧ Below w.heap.size w w'
theorem need_le {s u : Nat} (hu : 0 < u) : s ≤ needN s u * u ∧ needN s u ≤ s := by
  have hd := Nat.div_add_mod s u
  have hm := Nat.mod_lt s hu
  unfold needN
  by_cases h0 : 0 < s % u
  · rw [if_pos h0, Nat.add_mul, Nat.one_mul, Nat.mul_comm]
    refine ⟨by omega, ?_⟩
    have : s / u ≤ u * (s / u) := Nat.le_mul_of_pos_left _ hu
    omega
  · rw [if_neg h0, Nat.add_zero, Nat.mul_comm]
    exact ⟨by omega, Nat.div_le_self _ _⟩
theorem open_on {w : World} {d : Dl} {D : Dv} (h : DvM w d D) (hnf : NoF D) {vb : Value} {l : List Nat} {c : List Int} (hv : w.ownsRow 0 3 1 vb l.length (cellsN l)) (hf : FG D l c) (hlen : c.length ≤ 500000) :
    Calls Try.prog 17 #[.pointer (some ⟨d.g, 0, none⟩), .agg #[vb, .int .i64 (c.length : Int)]] w (OpenOn w d D l c) := by
  have hu0 : 0 < D.unit := by have := h.u0; omega
  have hn := need_le (s := c.length) hu0
  have hll := hf.ln
  refine (open_good h hv c.length (by omega) hf.ln hf.bs (by omega)).mono ?_
  rintro e w' ⟨p, oc, rfl, hrd, hp, hoc, hb⟩
  have hpc : oc < w'.heap.size := hrd.lt oc (.inr (.inl rfl))
  refine ⟨p, oc, rfl, ⟨⟨hrd, h.below hb, fun k hk hd' => ?_⟩, ⟨hnf, ⟨rfl, by show c.length ≤ _; omega, Nat.zero_le _, ⟨by show c.length ≤ l.length * D.unit; rw [hll]; exact hn.1, hf.bs, by omega⟩, .inl rfl⟩, hu0, h.ml, rfl, hf.by', fun b hb' => ?_⟩, rfl, rfl⟩, hp, hoc, hb⟩
  · have := h.lt k hd'
    rcases hk with hk | hk | hk
    · omega
    · cases hk
      omega
    · cases hk
  · have : (-1 : Int) = (b : Int) := hb'
    omega
def InOn (w : World) (d : Dl) (D : Dv) (e : Ending) (w' : World) : Prop := ∃ p, e = .returned (.pointer (some ⟨p, 0, none⟩)) ∧ ROn w' p d none none ⟨D.unit, none, D.inp.length, 0, -1, [], 0⟩ D D.inp ∧ w.heap.size ≤ p ∧ Below w.heap.size w w'
theorem input_on {w : World} {d : Dl} {D : Dv} (h : DvM w d D) (hnf : NoF D) : Calls Try.prog 18 #[.pointer (some ⟨d.g, 0, none⟩)] w (InOn w d D) := by
  have hu0 : 0 < D.unit := by have := h.u0; omega
  have hi1 := h.i1
  refine (input_any h).mono ?_
  rintro e w' ⟨p, rfl, hrd, hp, hb⟩
  refine ⟨p, rfl, ⟨⟨hrd, h.below hb, fun k hk hd' => ?_⟩, ⟨hnf, ⟨rfl, by show D.inp.length ≤ _; omega, Nat.zero_le _, rfl, .inl rfl⟩, hu0, h.ml, rfl, rfl, fun b hb' => ?_⟩, rfl, rfl⟩, hp, hb⟩
  · have := h.lt k hd'
    rcases hk with hk | hk | hk
    · omega
    · cases hk
    · cases hk
  · have : (-1 : Int) = (b : Int) := hb'
    omega
/-- A new writer. -/
theorem wg_new {n U : Nat} {D : Dv} {F : Int → Bool} (hnf : NoF D) (hu : D.unit = U) (h0 : 0 < U) (hm : D.mem.length = D.unit * D.scr) (hs : D.scr = n) : WG n ⟨U, [], [], 0, 0, false⟩ D F [] [] :=
  ⟨hnf, hu.symm, by omega, hm, hs, rfl, .inl ⟨rfl, rfl⟩, rfl, by show 0 < D.unit; omega, List.nodup_nil, fun b hb => by cases hb⟩
end Go.Proofs.Ytkhejipcclpknaa
