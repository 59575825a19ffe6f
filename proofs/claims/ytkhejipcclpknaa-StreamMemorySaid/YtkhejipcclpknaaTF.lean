/- The method 'block' of a reader's source, found by name. No statement is proved here. -/
import Derived.Test.YtkhejipcclpknaaSQ
import Derived.Test.YtkhejipcclpknaaTB
set_option linter.unusedVariables false
set_option linter.unusedSimpArgs false
namespace Go.Proofs.Ytkhejipcclpknaa
section
open Go.RowKit


theorem types_size : Try.prog.types.size = 185 := by kernel_rfl
theorem m_region (v : Value) (w : World) : Sem.run Try.prog (method 285 99 (.agg #[v]) "proctor/stream.block") w = .ok (105, .agg #[v]) w := by kernel_rfl
theorem m_chain (v u : Value) (w : World) : Sem.run Try.prog (method 285 93 (.agg #[v, u]) "proctor/stream.block") w = .ok (102, .agg #[v, u]) w := by kernel_rfl

end

section


/-- A block of a reader's source. -/
def Rd.fetch (R : Rd) (D : Dv) (b : Nat) : Int × List Int × Dv :=
  match R.chain with
  | none => D.readIn b
  | some l => D.readSc (((l[b]?).getD 0 : Nat) : Int)
/-- The block is held, or is read: the error, the reader, the device. -/
def Rd.hold (R : Rd) (D : Dv) (b : Nat) : Int × Rd × Dv :=
  if (b : Int) = R.held then (0, R, D) else
  if (R.fetch D b).1 = 0 then (0, { R with buf := (R.fetch D b).2.1, held := (b : Int) }, (R.fetch D b).2.2) else ((R.fetch D b).1, { R with fault := (R.fetch D b).1, buf := [] }, (R.fetch D b).2.2)
/-- Read's loop, for so many rounds at most: from place 'a' to place 'z'. -/
def rdLoop : Nat → Rd → Dv → Nat → Nat → List Int → Int × List Int × Rd × Dv
  | 0, R, D, _, _, out => (0, out, R, D)
  | f + 1, R, D, a, z, out =>
    if z ≤ a then (0, out, R, D) else
    if (R.hold D (a / R.unit)).1 = 0 then
      rdLoop f (R.hold D (a / R.unit)).2.1 (R.hold D (a / R.unit)).2.2 (a + min (z - a) (R.unit - a % R.unit)) z (out ++ ((R.hold D (a / R.unit)).2.1.buf.drop (a % R.unit)).take (min (z - a) (R.unit - a % R.unit)))
    else ((R.hold D (a / R.unit)).1, [], (R.hold D (a / R.unit)).2.1, (R.hold D (a / R.unit)).2.2)
theorem hold_unit (R : Rd) (D : Dv) (b : Nat) : (R.hold D b).2.1.unit = R.unit := by
  unfold Rd.hold
  split
  · rfl
  · split <;> rfl

end

section
open Go.RowKit


/-- How many bytes a round of Read takes. -/
def rK (R : Rd) (a z : Nat) : Nat := min (z - a) (R.unit - a % R.unit)
theorem rK_pos {R : Rd} {a z : Nat} (hu : 0 < R.unit) (h : a < z) : 1 ≤ rK R a z ∧ rK R a z ≤ z - a := by
  have := Nat.mod_lt a hu
  unfold rK
  omega
theorem rdLoop_fuel : ∀ (f f' : Nat) (R : Rd) (D : Dv) (a z : Nat) (out : List Int), z - a < f → z - a < f' → 0 < R.unit → rdLoop f R D a z out = rdLoop f' R D a z out
  | 0, _, _, _, _, _, _, h, _, _ => by omega
  | _, 0, _, _, _, _, _, _, h, _ => by omega
  | f + 1, f' + 1, R, D, a, z, out, h1, h2, hu => by
    unfold rdLoop
    by_cases hz : z ≤ a
    · rw [if_pos hz, if_pos hz]
    · rw [if_neg hz, if_neg hz]
      by_cases h0 : (R.hold D (a / R.unit)).1 = 0
      · rw [if_pos h0, if_pos h0]
        have hk := rK_pos hu (show a < z by omega)
        unfold rK at hk
        exact rdLoop_fuel f f' _ _ _ _ _ (by omega) (by omega) (by rw [hold_unit]; exact hu)
      · rw [if_neg h0, if_neg h0]
def rdRun (R : Rd) (D : Dv) (a z : Nat) (out : List Int) : Int × List Int × Rd × Dv := rdLoop (z - a + 1) R D a z out
theorem rdRun_done {R : Rd} {D : Dv} {a z : Nat} {out : List Int} (h : z ≤ a) : rdRun R D a z out = (0, out, R, D) := by
  unfold rdRun rdLoop
  rw [if_pos h]
theorem rdRun_bad {R : Rd} {D : Dv} {a z : Nat} {out : List Int} (h : a < z) (h0 : (R.hold D (a / R.unit)).1 ≠ 0) : rdRun R D a z out = ((R.hold D (a / R.unit)).1, [], (R.hold D (a / R.unit)).2.1, (R.hold D (a / R.unit)).2.2) := by
  unfold rdRun rdLoop
  rw [if_neg (by omega), if_neg h0]
theorem rdRun_next {R : Rd} {D : Dv} {a z : Nat} {out : List Int} (h : a < z) (hu : 0 < R.unit) (h0 : (R.hold D (a / R.unit)).1 = 0) :
    rdRun R D a z out = rdRun (R.hold D (a / R.unit)).2.1 (R.hold D (a / R.unit)).2.2 (a + rK R a z) z (out ++ ((R.hold D (a / R.unit)).2.1.buf.drop (a % R.unit)).take (rK R a z)) := by
  have hk := rK_pos hu h
  conv => lhs; unfold rdRun rdLoop
  rw [if_neg (by omega), if_pos h0]
  exact rdLoop_fuel _ _ _ _ _ _ _ (by unfold rK at hk; omega) (by unfold rK; omega) (by rw [hold_unit]; exact hu)
/-- What Read answers and leaves. -/
def rRead (R : Rd) (D : Dv) (m : Int) : Int × List Int × Rd × Dv :=
  if R.fault ≠ 0 then (R.fault, [], R, D) else
  if m < 0 ∨ 65536 < m then (81, [], R, D) else
  if (rdRun R D R.pos (R.pos + min m.toNat (R.size - R.pos)) []).1 = 0 then (0, (rdRun R D R.pos (R.pos + min m.toNat (R.size - R.pos)) []).2.1, { (rdRun R D R.pos (R.pos + min m.toNat (R.size - R.pos)) []).2.2.1 with pos := R.pos + min m.toNat (R.size - R.pos) }, (rdRun R D R.pos (R.pos + min m.toNat (R.size - R.pos)) []).2.2.2)
  else ((rdRun R D R.pos (R.pos + min m.toNat (R.size - R.pos)) []).1, [], (rdRun R D R.pos (R.pos + min m.toNat (R.size - R.pos)) []).2.2.1, (rdRun R D R.pos (R.pos + min m.toNat (R.size - R.pos)) []).2.2.2)
/-- A reader is right: its blocks are there, and the bytes that it holds are enough. -/
structure RdOk (R : Rd) (D : Dv) : Prop where
  u : R.unit = D.unit
  sz : R.size ≤ 1000000000
  pos : R.pos ≤ R.size
  src : match R.chain with
    | none => R.size = D.inp.length
    | some l => R.size ≤ l.length * D.unit ∧ (∀ b ∈ l, b < D.scr) ∧ l.length ≤ 1000000
  hb : R.held = -1 ∨ ∃ b : Nat, R.held = (b : Int) ∧ min D.unit (R.size - b * D.unit) ≤ R.buf.length
theorem readIn_keep (D : Dv) (b : Int) : (D.readIn b).2.2.unit = D.unit ∧ (D.readIn b).2.2.inp = D.inp ∧ (D.readIn b).2.2.scr = D.scr ∧ (D.readIn b).2.2.mem = D.mem := by
  unfold Dv.readIn
  split
  · exact ⟨rfl, rfl, rfl, rfl⟩
  · split
    · exact ⟨rfl, rfl, rfl, rfl⟩
    · split
      · simp only [readD_unit, readD_inp, readD_scr, readD_mem]
        exact ⟨trivial, trivial, trivial, trivial⟩
      · simp only [readD_unit, readD_inp, readD_scr, readD_mem]
        exact ⟨trivial, trivial, trivial, trivial⟩
theorem readSc_keep (D : Dv) (b : Int) : (D.readSc b).2.2.unit = D.unit ∧ (D.readSc b).2.2.inp = D.inp ∧ (D.readSc b).2.2.scr = D.scr ∧ (D.readSc b).2.2.mem = D.mem := by
  unfold Dv.readSc
  split
  · exact ⟨rfl, rfl, rfl, rfl⟩
  · split
    · exact ⟨rfl, rfl, rfl, rfl⟩
    · split
      · simp only [readD_unit, readD_inp, readD_scr, readD_mem]
        exact ⟨trivial, trivial, trivial, trivial⟩
      · simp only [readD_unit, readD_inp, readD_scr, readD_mem]
        exact ⟨trivial, trivial, trivial, trivial⟩
theorem fetch_keep (R : Rd) (D : Dv) (b : Nat) : (R.fetch D b).2.2.unit = D.unit ∧ (R.fetch D b).2.2.inp = D.inp ∧ (R.fetch D b).2.2.scr = D.scr ∧ (R.fetch D b).2.2.mem = D.mem := by
  unfold Rd.fetch
  split
  · exact readIn_keep D _
  · exact readSc_keep D _
theorem hold_keep (R : Rd) (D : Dv) (b : Nat) : (R.hold D b).2.2.unit = D.unit ∧ (R.hold D b).2.2.inp = D.inp ∧ (R.hold D b).2.2.scr = D.scr ∧ (R.hold D b).2.2.mem = D.mem := by
  unfold Rd.hold
  split
  · exact ⟨rfl, rfl, rfl, rfl⟩
  · split
    · exact fetch_keep R D b
    · exact fetch_keep R D b
theorem readIn_buf {D : Dv} {b : Nat} (h : (D.readIn b).1 = 0) : (D.readIn b).2.1 = D.slab b := by
  unfold Dv.readIn at h ⊢
  split
  · rename_i hd
    rw [if_pos hd] at h
    cases h
  · rename_i hd
    rw [if_neg hd] at h
    split
    · rename_i hb
      rw [if_pos hb] at h
      cases h
    · rename_i hb
      rw [if_neg hb] at h
      split
      · rfl
      · rename_i hr
        rw [if_neg hr] at h
        cases h
theorem readSc_buf {D : Dv} {b : Nat} (h : (D.readSc b).1 = 0) : (D.readSc b).2.1 = D.mblk b := by
  unfold Dv.readSc at h ⊢
  split
  · rename_i hd
    rw [if_pos hd] at h
    cases h
  · rename_i hd
    rw [if_neg hd] at h
    split
    · rename_i hb
      rw [if_pos hb] at h
      cases h
    · rename_i hb
      rw [if_neg hb] at h
      split
      · rfl
      · rename_i hr
        rw [if_neg hr] at h
        cases h
theorem fetch_len {R : Rd} {D : Dv} {b : Nat} (h : RdOk R D) (hm : D.mem.length = D.unit * D.scr) (hu : 0 < D.unit) (hb : b * D.unit < R.size) (h0 : (R.fetch D b).1 = 0) : min D.unit (R.size - b * D.unit) ≤ (R.fetch D b).2.1.length := by
  have hs := h.src
  unfold Rd.fetch at h0 ⊢
  cases hc : R.chain with
  | none =>
    rw [hc] at hs h0
    simp only at hs h0 ⊢
    rw [readIn_buf h0, slab_len, hs]
    exact Nat.le_refl _
  | some l =>
    rw [hc] at hs h0
    simp only at hs h0 ⊢
    have hbl : b < l.length := by
      have := hs.1
      exact Nat.lt_of_mul_lt_mul_right (Nat.lt_of_lt_of_le hb this)
    rw [List.getElem?_eq_getElem hbl] at h0 ⊢
    rw [readSc_buf h0, Option.getD_some, mblk_len hm (hs.2.1 _ (List.getElem_mem hbl))]
    exact Nat.min_le_left _ _
/-- A reader keeps right. -/
theorem hold_ok {R : Rd} {D : Dv} {b : Nat} (h : RdOk R D) (hm : D.mem.length = D.unit * D.scr) (hu : 0 < D.unit) (hb : b * D.unit < R.size) (h0 : (R.hold D b).1 = 0) : RdOk (R.hold D b).2.1 (R.hold D b).2.2 ∧ min D.unit (R.size - b * D.unit) ≤ (R.hold D b).2.1.buf.length ∧ (R.hold D b).2.1.pos = R.pos ∧ (R.hold D b).2.1.size = R.size ∧ (R.hold D b).2.1.chain = R.chain := by
  obtain ⟨k1, k2, k3, k4⟩ := hold_keep R D b
  have hl := fetch_len h hm hu hb
  by_cases he : (b : Int) = R.held
  · have e1 : R.hold D b = (0, R, D) := by unfold Rd.hold; rw [if_pos he]
    rw [e1]
    refine ⟨h, ?_, rfl, rfl, rfl⟩
    rcases h.hb with h1 | ⟨b', h1, h2⟩
    · rw [h1] at he
      omega
    · rw [h1] at he
      have : b = b' := by omega
      subst this
      exact h2
  · have e1 : R.hold D b = if (R.fetch D b).1 = 0 then (0, { R with buf := (R.fetch D b).2.1, held := (b : Int) }, (R.fetch D b).2.2) else ((R.fetch D b).1, { R with fault := (R.fetch D b).1, buf := [] }, (R.fetch D b).2.2) := by
      conv => lhs; unfold Rd.hold
      rw [if_neg he]
    have h1 : (R.fetch D b).1 = 0 := by
      by_cases hf : (R.fetch D b).1 = 0
      · exact hf
      · rw [e1, if_neg hf] at h0
        exact h0
    rw [e1, if_pos h1] at k1 k2 k3 k4 ⊢
    refine ⟨⟨h.u.trans k1.symm, h.sz, h.pos, ?_, .inr ⟨b, rfl, by rw [k1]; exact hl h1⟩⟩, hl h1, rfl, rfl, rfl⟩
    have hs := h.src
    show match R.chain with
      | none => R.size = _
      | some l => R.size ≤ l.length * _ ∧ (∀ b ∈ l, b < _) ∧ l.length ≤ 1000000
    rw [k1, k2, k3]
    exact hs
/-- A reader with its device. -/
structure Rh (w : World) (p : Nat) (d : Dl) (oc o : Option Nat) (R : Rd) (D : Dv) : Prop where
  rd : RdM w p d.g oc o R
  dv : DvM w d D
  ap : ∀ k, rS p oc o k → ¬ d.S k
structure RhStep (w w' : World) (p : Nat) (d : Dl) (oc o o1 : Option Nat) : Prop where
  h1 : Heir w o o1
  up : Upd (fun k => rS p oc o k ∨ d.S k) w w'
theorem RhStep.refl (w : World) (p : Nat) (d : Dl) (oc o : Option Nat) : RhStep w w p d oc o o := ⟨Heir.refl _ _, Upd.refl _ _⟩
theorem RhStep.below {w w' : World} {p : Nat} {d : Dl} {oc o : Option Nat} (h : Below w.heap.size w w') : RhStep w w' p d oc o o := ⟨Heir.refl _ _, Upd.of_new h⟩
theorem rS_heir {w : World} {p : Nat} {oc o o1 : Option Nat} (h1 : Heir w o o1) (k : Nat) (hk : k < w.heap.size) (h : rS p oc o1 k) : rS p oc o k := by
  rcases h with h | h | h
  · exact .inl h
  · exact .inr (.inl h)
  · rcases h1 k h with e | e
    · exact .inr (.inr e)
    · omega
theorem RhStep.trans {w w' w'' : World} {p : Nat} {d : Dl} {oc o o1 o2 : Option Nat} (h : RhStep w w' p d oc o o1) (k : RhStep w' w'' p d oc o1 o2) : RhStep w w'' p d oc o o2 :=
  ⟨h.h1.trans k.h1 h.up.size, h.up.trans k.up fun i hi hh => hh.imp (rS_heir h.h1 i hi) id⟩
theorem Rh.below {w w' : World} {p : Nat} {d : Dl} {oc o : Option Nat} {R : Rd} {D : Dv} (h : Rh w p d oc o R D) (hb : Below w.heap.size w w') : Rh w' p d oc o R D := ⟨h.rd.below hb, h.dv.below hb, h.ap⟩
theorem Rh.next {w w' : World} {p : Nat} {d : Dl} {oc o o1 : Option Nat} {R R1 : Rd} {D D1 : Dv} (h : Rh w p d oc o R D) (st : RhStep w w' p d oc o o1) (h1 : RdM w' p d.g oc o1 R1) (h2 : DvM w' d D1) : Rh w' p d oc o1 R1 D1 :=
  ⟨h1, h2, fun k hk hd => h.ap k (rS_heir st.h1 k (h.dv.lt k hd) hk) hd⟩
theorem Rh.beside {S : Nat → Prop} {w w' : World} {p : Nat} {d : Dl} {oc o : Option Nat} {R : Rd} {D : Dv} (h : Rh w p d oc o R D) (u : Upd S w w') (hs : ∀ k, (rS p oc o k ∨ d.S k) → ¬ S k) : Rh w' p d oc o R D :=
  ⟨h.rd.upd u fun k hk => hs k (.inl hk), h.dv.upd u fun k hk => hs k (.inr hk), h.ap⟩

end
end Go.Proofs.Ytkhejipcclpknaa
