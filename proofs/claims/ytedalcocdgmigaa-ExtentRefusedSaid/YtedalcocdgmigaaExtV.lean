/- Slices of steps that come in, and the space's methods whatever they are asked. No statement is proved here. -/
import Derived.Test.YtedalcocdgmigaaExtT
import Derived.Deep.Slices
set_option linter.unusedVariables false
set_option linter.unusedSimpArgs false
namespace Go.Proofs.Ytedalcocdgmigaa
open Go.ChangeShapes Go.WideShapes Go.ChangeAt Go.RowKit

/-- A slice of steps that came in: kind, from, count. -/
def OpsIn (w : World) (a : Option Addr) (len : Nat) (xs : Nat → Int × Int × Int) : Prop := len ≤ 9223372036854775807 ∧ ∀ i, i < len → ∃ b off, a = some ⟨b, off, none⟩ ∧ b < w.heap.size ∧
  w.cell? ⟨b, off + i * 3, none⟩ = some (.int .i64 (xs i).1) ∧ w.cell? ⟨b, off + i * 3 + 1, none⟩ = some (.int .i64 (xs i).2.1) ∧ w.cell? ⟨b, off + i * 3 + 2, none⟩ = some (.int .i64 (xs i).2.2) ∧
  (-9223372036854775808 ≤ (xs i).1 ∧ (xs i).1 ≤ 9223372036854775807) ∧ (-9223372036854775808 ≤ (xs i).2.1 ∧ (xs i).2.1 ≤ 9223372036854775807) ∧ (-9223372036854775808 ≤ (xs i).2.2 ∧ (xs i).2.2 ≤ 9223372036854775807)

theorem cellsOp : Try.prog.cellsOf 46 = 3 := by kernel_rfl

theorem op_cells {H : Type} {enc : TypeId × Value → H} {w : World} {base : Nat} {spare : Nat → Bool} {held : Bool} {n : Nat} {cs : List Value} {x : DataW H × List MemPlace}
    (h : DataW.trod enc Try.prog w base spare held n 46 cs = some x) : ∃ k f c, cs = [.int .i64 k, .int .i64 f, .int .i64 c] ∧ (Lit.int .i64 k).wf = true ∧ (Lit.int .i64 f).wf = true ∧ (Lit.int .i64 c).wf = true := by
  obtain ⟨ys, m, rfl, rfl, hl, hlen, hf⟩ := DataW.trod_struct Try.underlying46 h
  rw [cellsOp] at hl
  match cs, hl with
  | [c0, c1, c2], _ =>
    have h0 := hf 0 _ rfl
    have h1 := hf 1 _ rfl
    have h2 := hf 2 _ rfl
    match ys, hlen with
    | [y0, y1, y2], _ =>
      simp [cellsInt] at h0 h1 h2
      obtain ⟨k, e0, _, w0⟩ := DataW.trod_int Try.underlying3 h0
      obtain ⟨f, e1, _, w1⟩ := DataW.trod_int Try.underlying3 h1
      obtain ⟨c, e2, _, w2⟩ := DataW.trod_int Try.underlying3 h2
      simp at e0 e1 e2
      subst e0 e1 e2
      exact ⟨k, f, c, rfl, w0, w1, w2⟩

theorem ops_in {H : Type} {enc : TypeId × Value → H} {W : World} {base : Nat} {v : Value} {d : DataW H} {ps : List MemPlace} (hv : Value.okWide Try.prog W .any base 41 v)
    (h : DataW.Trod enc Try.prog W 0 (fun _ => true) true 41 v d ps) : ∃ a len cap xs, v = .slice a len cap ∧ OpsIn W a len xs := by
  obtain ⟨a0, len, cap, rfl⟩ := okWide_slice Try.underlying41 hv
  obtain ⟨fuel, hf⟩ := h
  rcases Go.Deep.open_slice Try.underlying41 hf with ⟨hcs, hx⟩ | ⟨a, len', cap', m, n, D, Pl, hcs, _, hl, hm, hmm, hx, hall⟩
  · simp [Value.cells] at hcs
    obtain ⟨rfl, rfl, rfl⟩ := hcs
    exact ⟨_, _, _, fun _ => (0, 0, 0), rfl, by omega, fun i hi => by omega⟩
  · simp [Value.cells] at hcs
    obtain ⟨rfl, rfl, rfl⟩ := hcs
    simp only [if_true] at hmm
    rw [cellsOp] at hall
    by_cases h0 : len = 0
    · exact ⟨_, _, _, fun _ => (0, 0, 0), rfl, by omega, fun i hi => by omega⟩
    obtain ⟨b, off, spot⟩ := a
    have hspot : spot = none := by
      obtain ⟨cs', h1, h2⟩ := hall 0 (by omega)
      obtain ⟨_, _, hc⟩ := World.cells?_some h1
      obtain ⟨k, f, c, rfl, w0, w1, w2⟩ := op_cells h2
      have := hc 0 (by omega)
      simpa [Addr.add] using World.cell?_spot (this.trans rfl)
    subst hspot
    have key : ∀ i, i < len → ∃ x : Int × Int × Int, W.cell? ⟨b, off + i * 3, none⟩ = some (.int .i64 x.1) ∧ W.cell? ⟨b, off + i * 3 + 1, none⟩ = some (.int .i64 x.2.1) ∧ W.cell? ⟨b, off + i * 3 + 2, none⟩ = some (.int .i64 x.2.2) ∧
        (Lit.int .i64 x.1).wf = true ∧ (Lit.int .i64 x.2.1).wf = true ∧ (Lit.int .i64 x.2.2).wf = true := by
      intro i hi
      obtain ⟨cs', h1, h2⟩ := hall i (by omega)
      obtain ⟨_, _, hc⟩ := World.cells?_some h1
      obtain ⟨k, f, c, rfl, w0, w1, w2⟩ := op_cells h2
      have c0 := hc 0 (by omega)
      have c1 := hc 1 (by omega)
      have c2 := hc 2 (by omega)
      simp only [Addr.add_lit] at c0 c1 c2
      exact ⟨(k, f, c), c0, c1, c2, w0, w1, w2⟩
    have hxs : ∃ xs : Nat → Int × Int × Int, ∀ i, i < len → W.cell? ⟨b, off + i * 3, none⟩ = some (.int .i64 (xs i).1) ∧ W.cell? ⟨b, off + i * 3 + 1, none⟩ = some (.int .i64 (xs i).2.1) ∧ W.cell? ⟨b, off + i * 3 + 2, none⟩ = some (.int .i64 (xs i).2.2) ∧
        (Lit.int .i64 (xs i).1).wf = true ∧ (Lit.int .i64 (xs i).2.1).wf = true ∧ (Lit.int .i64 (xs i).2.2).wf = true := by
      refine ⟨fun i => if hi : i < len then (key i hi).choose else (0, 0, 0), fun i hi => ?_⟩
      simp only [dif_pos hi]
      exact (key i hi).choose_spec
    obtain ⟨xs, hxs⟩ := hxs
    refine ⟨_, _, _, xs, rfl, by unfold maxLen at hm; omega, fun i hi => ?_⟩
    obtain ⟨c0, c1, c2, w0, w1, w2⟩ := hxs i hi
    exact ⟨b, off, rfl, cell_blk c0, c0, c1, c2, bounds_i64 w0, bounds_i64 w1, bounds_i64 w2⟩

def Any1Post (w : World) (p : Nat) (o : Option Nat) (n : Int) (e : Ending) (w' : World) : Prop := ∃ v o' hs', e = .returned v ∧ Sp w' p o' n hs' ∧ SpStep w w' p o o'
theorem take_whatever (p : Nat) (o : Option Nat) (n f c : Int) (hs : List (Int × Int)) (w : World) (h : Sp w p o n hs) :
    Calls Try.prog 14 #[.pointer (some ⟨p, 0, none⟩), .agg #[.int .i64 f, .int .i64 c]] w (Any1Post w p o n) := by
  refine (take_any p o n f c hs w h).mono ?_
  rintro e w' (⟨_, rfl, hb⟩ | ⟨_, _, rfl, hb⟩ | ⟨_, _, hs', _, _, rfl, o', hsp, hst⟩)
  · exact ⟨_, o, hs, rfl, h.below hb, SpStep.of_below hb⟩
  · exact ⟨_, o, hs, rfl, h.below hb, SpStep.of_below hb⟩
  · exact ⟨_, o', hs', rfl, hsp, hst⟩
theorem free_whatever (p : Nat) (o : Option Nat) (n f c : Int) (hs : List (Int × Int)) (w : World) (h : Sp w p o n hs) :
    Calls Try.prog 18 #[.pointer (some ⟨p, 0, none⟩), .agg #[.int .i64 f, .int .i64 c]] w (Any1Post w p o n) := by
  refine (free_any p o n f c hs w h).mono ?_
  rintro e w' (⟨_, rfl, hb⟩ | ⟨_, _, rfl, hb⟩ | ⟨_, _, hs', _, _, rfl, o', hsp, hst⟩)
  · exact ⟨_, o, hs, rfl, h.below hb, SpStep.of_below hb⟩
  · exact ⟨_, o, hs, rfl, h.below hb, SpStep.of_below hb⟩
  · exact ⟨_, o', hs', rfl, hsp, hst⟩
/-- A step of the space, beside memory that came in and beside an own row. -/
theorem SpStep.aside {w w' : World} {p g : Nat} {o o' : Option Nat} (h : SpStep w w' p o o') (hp : g ≠ p) (ho : o ≠ some g) (hg : g < w.heap.size) : o' ≠ some g ∧ w'.heap[g]? = w.heap[g]? := by
  refine ⟨fun he => ?_, h.upd.block g hg ?_⟩
  · rcases h.new g he with h1 | h1
    · exact ho h1
    · omega
  · rintro (h1 | h1)
    · exact hp h1
    · exact ho h1
theorem own_kept {w w' : World} {g m cap : Nat} {n : Nat} {xs : List Value} (h : w.ownsRow 0 31 2 (.slice (some ⟨g, 0, none⟩) m cap) n xs) (hb : w'.heap[g]? = w.heap[g]?) : w'.ownsRow 0 31 2 (.slice (some ⟨g, 0, none⟩) m cap) n xs := by
  refine ⟨h.1, ?_⟩
  rcases h.2 with hh | ⟨g0, cap0, cur, hv0, k0, hg, rest⟩
  · exact .inl hh
  · have e : g = g0 := by simp at hv0; exact hv0.1
    subst e
    exact .inr ⟨g, cap0, cur, hv0, k0, hb.trans hg, rest⟩
end Go.Proofs.Ytedalcocdgmigaa
