/- A device's input, and a reader of it. No statement is proved here. -/
import Derived.Test.YtkhejipcclpknaaSO
set_option linter.unusedVariables false
set_option linter.unusedSimpArgs false
namespace Go.Proofs.Ytkhejipcclpknaa
open Go.RowKit

def InputPost (w : World) (D : Dv) (e : Ending) (w' : World) : Prop := ∃ g ic, e = .returned (.slice (some ⟨g, 0, none⟩) D.inp.length ic) ∧ w'.ownsRow 0 5 1 (.slice (some ⟨g, 0, none⟩) D.inp.length ic) D.inp.length (cellsB D.inp) ∧ w.heap.size ≤ g ∧ Below w.heap.size w w'
theorem DvM.bytes {w : World} {d : Dl} {D : Dv} (h : DvM w d D) : BytesIn w (some ⟨d.ib, 0, none⟩) D.inp := fun _ => by
  obtain ⟨cur, h1, _, _, _, h5⟩ := h.hi
  exact ⟨d.ib, 0, rfl, blk_lt h1, fun i hi => by rw [Nat.zero_add, blk_cell h1]; exact h5 i hi⟩
set_option maxHeartbeats 1000000 in
set_option maxRecDepth 100000 in
theorem dinput_any {w : World} {d : Dl} {D : Dv} (h : DvM w d D) : Calls Try.prog 38 #[.pointer (some ⟨d.g, 0, none⟩)] w (InputPost w D) := by
  have hgl := blk_lt h.hg
  have hal := (Below.refl _ w).alloc (Nat.le_refl _) (.cells #[] 5)
  have g2 := (hal.cell (p := ⟨d.g, 2, none⟩) hgl).trans ((h.cell 2).trans (show _ = some (Value.slice (some ⟨d.ib, 0, none⟩) D.inp.length d.ic) from rfl))
  have i1 := h.i1
  obtain ⟨g, ic, w2, hrun, hown, hgr, hg⟩ := app_onto (heap_alloc_new w (.cells #[] 5)) 22 D.inp.length d.ic rfl (h.bytes.below hal) (by omega) (fun _ _ _ _ => trivial)
  have HO := hid hown
  have HB := hid (hal.grown hgr hal.size (fun k e => by cases e; exact Nat.le_refl _))
  have HG := hid hg
  clear h hal hown hgr hg
  go_enter Try.func38, Try.ntmps38
  go_wp2_with (at_builtin; refine wpList_append_run _ rfl (.tmp 3) (.tmp 7) 22 22 rfl _ _ rfl rfl hrun ?_)
  go_ret
  refine ⟨g, ic, rfl, HO.out, ?_, HB.out⟩
  rcases HG.out with h | h
  · rw [h]
    exact Nat.le_refl _
  · rw [h]
    simp
/-- A reader as data: 'chain' is the list of a file's blocks; none: the input. -/
structure Rd where
  unit : Nat
  chain : Option (List Nat)
  size : Nat
  pos : Nat
  held : Int
  buf : List Int
  fault : Int
/-- Where a reader's blocks come from. -/
def srcV (g : Nat) : Option (List Nat) → Value → Value
  | none, _ => .iface 99 (.agg #[.pointer (some ⟨g, 0, none⟩)])
  | some _, v => .iface 93 (.agg #[.pointer (some ⟨g, 0, none⟩), v])
/-- A reader in memory; oc is the block of its list of blocks, o that of the bytes that it holds. -/
structure RdM (w : World) (p g : Nat) (oc o : Option Nat) (R : Rd) : Prop where
  ex : ∃ vc v : Value, vc.ownBlock = oc ∧ v.ownBlock = o ∧ w.heap[p]? = some (.cells #[srcV g R.chain vc, .int .i64 R.unit, .int .i64 R.size, .int .i64 R.pos, .int .i64 R.held, v, .int .i64 R.fault] 97 (0, 0)) ∧
    w.ownsRow 0 3 1 vc (R.chain.getD []).length (cellsN (R.chain.getD [])) ∧ w.ownsRow 0 5 1 v R.buf.length (cellsB R.buf)
  ap : oc ≠ some p ∧ o ≠ some p ∧ ∀ k, oc = some k → o ≠ some k
def rS (p : Nat) (oc o : Option Nat) (k : Nat) : Prop := k = p ∨ oc = some k ∨ o = some k
theorem RdM.lt {w : World} {p g : Nat} {oc o : Option Nat} {R : Rd} (h : RdM w p g oc o R) : ∀ k, rS p oc o k → k < w.heap.size := by
  obtain ⟨v, v', rfl, rfl, h1, h2, h3⟩ := h.ex
  rintro k (rfl | hk | hk)
  · exact blk_lt h1
  · rcases h2.2 with ⟨rfl, _⟩ | ⟨b, cap, cur, rfl, _, hb, _⟩
    · cases hk
    · cases hk
      exact blk_lt hb
  · rcases h3.2 with ⟨rfl, _⟩ | ⟨b, cap, cur, rfl, _, hb, _⟩
    · cases hk
    · cases hk
      exact blk_lt hb
theorem RdM.kept {w w' : World} {p g : Nat} {oc o : Option Nat} {R : Rd} (h : RdM w p g oc o R) (hb : ∀ k, rS p oc o k → w'.heap[k]? = w.heap[k]?) : RdM w' p g oc o R := by
  obtain ⟨v, v', e1, e2, h1, h2, h3⟩ := h.ex
  exact ⟨⟨v, v', e1, e2, (hb p (.inl rfl)).trans h1, own_same h2 fun k hk => hb k (.inr (.inl (by rw [← e1]; exact hk))), own_same h3 fun k hk => hb k (.inr (.inr (by rw [← e2]; exact hk)))⟩, h.ap⟩
theorem RdM.upd {S : Nat → Prop} {w w' : World} {p g : Nat} {oc o : Option Nat} {R : Rd} (h : RdM w p g oc o R) (u : Upd S w w') (hs : ∀ k, rS p oc o k → ¬ S k) : RdM w' p g oc o R := h.kept fun k hk => u.block k (h.lt k hk) (hs k hk)
theorem RdM.below {w w' : World} {p g : Nat} {oc o : Option Nat} {R : Rd} (h : RdM w p g oc o R) (u : Below w.heap.size w w') : RdM w' p g oc o R := h.kept fun k hk => u.block k (h.lt k hk)
def ReaderPost (w : World) (d : Dl) (D : Dv) (e : Ending) (w' : World) : Prop := ∃ p, e = .returned (.pointer (some ⟨p, 0, none⟩)) ∧ RdM w' p d.g none none ⟨D.unit, none, D.inp.length, 0, -1, [], 0⟩ ∧ w.heap.size ≤ p ∧ Below w.heap.size w w'
set_option maxHeartbeats 1000000 in
set_option maxRecDepth 100000 in
theorem input_any {w : World} {d : Dl} {D : Dv} (h : DvM w d D) : Calls Try.prog 18 #[.pointer (some ⟨d.g, 0, none⟩)] w (ReaderPost w d D) := by
  have HG := hid (geom_any h)
  have H0 := hid h
  have hfl := field_geom (D.unit : Int) (D.scr : Int)
  clear h
  go_enter Try.func18, Try.ntmps18
  go_wp2_with (go_at_call 32; refine HG.out.mono ?_; rintro e w1 ⟨rfl, hb1⟩; have HI := hid (dinput_any (H0.out.below hb1)); have HB1 := hid hb1; clear hb1)
  refine HI.out.mono ?_
  rintro e w2 ⟨g, ic, rfl, ho, hg, hb⟩
  have HB2 := hid hb
  clear ho hg hb
  go_wp2_with fail
  go_ret
  have hb := HB1.out.trans (HB2.out.mono HB1.out.size)
  exact ⟨w2.heap.size, rfl, ⟨⟨.slice none 0 0, .slice none 0 0, rfl, rfl, heap_alloc_new w2 _, World.ownsRow_nil _ _ _ _, World.ownsRow_nil _ _ _ _⟩, by simp, by simp, by simp⟩, hb.size, hb.alloc hb.size _⟩
set_option maxHeartbeats 1000000 in
set_option maxRecDepth 100000 in
theorem offset_any {w : World} {p g : Nat} {oc o : Option Nat} {R : Rd} (h : RdM w p g oc o R) : Calls Try.prog 20 #[.pointer (some ⟨p, 0, none⟩)] w fun e w' => e = .returned (.int .i64 R.pos) ∧ w' = w := by
  obtain ⟨v, v', rfl, rfl, h1, h2, h3⟩ := h.ex
  have c3 : w.cell? ⟨p, 3, none⟩ = some (.int .i64 R.pos) := (blk_cell h1 3).trans rfl
  clear h h1 h2 h3
  go_enter Try.func20, Try.ntmps20
  go_wp2_with fail
  go_ret
  exact ⟨rfl, rfl⟩
set_option maxHeartbeats 1000000 in
set_option maxRecDepth 100000 in
theorem rleft_any {w : World} {p g : Nat} {oc o : Option Nat} {R : Rd} (h : RdM w p g oc o R) (hle : R.pos ≤ R.size) (hsz : R.size ≤ 1000000000000) : Calls Try.prog 21 #[.pointer (some ⟨p, 0, none⟩)] w fun e w' => e = .returned (.int .i64 ((R.size - R.pos : Nat) : Int)) ∧ w' = w.drew := by
  obtain ⟨v, v', rfl, rfl, h1, h2, h3⟩ := h.ex
  have c2 : w.cell? ⟨p, 2, none⟩ = some (.int .i64 R.size) := (blk_cell h1 2).trans rfl
  have c3 : w.cell? ⟨p, 3, none⟩ = some (.int .i64 R.pos) := (blk_cell h1 3).trans rfl
  have hw : IntKind.i64.wrap ((R.size : Int) - (R.pos : Int)) = ((R.size - R.pos : Nat) : Int) := by
    rw [wrap_id (by omega) (by omega)]
    omega
  have HW := hid hw
  clear h h1 h2 h3 hw
  go_enter Try.func21, Try.ntmps21
  go_upto_region 1 with fail
  go_still (by kernel_rfl)
  go_wp2_with fail
  go_ret
  exact ⟨congrArg (fun x => Ending.returned (Value.int .i64 x)) HW.out, rfl⟩
end Go.Proofs.Ytkhejipcclpknaa
