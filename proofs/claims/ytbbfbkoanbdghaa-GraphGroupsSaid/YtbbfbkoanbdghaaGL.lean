/- The law's anchor and build; Once. No statement is proved here. -/
import Derived.Test.YtbbfbkoanbdghaaGS
set_option linter.unusedVariables false
set_option linter.unusedSimpArgs false
namespace Go.Proofs.Ytbbfbkoanbdghaa
open Go.RowKit

theorem inM_11 : inM 1 1 = true := by kernel_rfl
set_option maxHeartbeats 4000000 in
set_option maxRecDepth 100000 in
theorem anchor_any (w : World) : Calls Try.prog 10 #[] w fun e w' => e = .returned (.bool true) ∧ Below w.heap.size w w' := by
  go_enter Try.func10, Try.ntmps10
  go_wp2_with fail
  refine (new_good w.heap.size 2 w (by omega) (Nat.le_refl _)).mono ?_
  rintro e w1 ⟨g, mb, ob, bb, oc, bc, vs, rfl, hG, hB1⟩
  have HG1 := hid hG
  have HB1 := hid hB1
  clear hG hB1
  go_wp2_with fail
  refine (add_any HG1.out ⟨0, 1, 1⟩ HB1.out.size).mono ?_
  rintro e w2 ⟨rfl, mb, ob, bb, oc, bc, vs, hG, hB2⟩
  have hc : addCode 2 [] ⟨0, 1, 1⟩ = 0 := by decide
  have hes : addE 2 [] ⟨0, 1, 1⟩ = [⟨0, 1, 1⟩] := by unfold addE; rw [if_pos hc]; rfl
  rw [hes] at hG
  have HG2 := hid hG
  have HB2 := hid (HB1.out.trans hB2)
  rw [hc]
  clear hG hB2 hes HG1 HB1 hc
  go_wp2_with fail
  refine (reach_any HG2.out 0 1 1).mono ?_
  rintro e w3 ⟨r, rfl, hr, hB3, hD⟩
  have hw : r = true := hr.2 ⟨by decide, by decide, way_edge (a := 0) (b := 1) (hD (by decide) (by decide)) (List.mem_singleton.2 rfl) rfl rfl inM_11⟩
  subst hw
  have HG3 := hid (HG2.out.below hB3)
  have HB3 := hid (HB2.out.trans (hB3.mono HB2.out.size))
  clear hr hD hB3 HG2 HB2
  go_wp2_with fail
  refine (edges_any HG3.out).mono ?_
  rintro e w4 ⟨v, ss, rfl, hp, _, ho, _, hB4⟩
  obtain rfl := List.perm_singleton.1 hp
  obtain ⟨a, c, rfl, _⟩ := own_ein ho
  have hB := HB3.out.trans (hB4.mono HB3.out.size)
  clear hp ho hB4 HG3 HB3
  simp only [List.length_cons, List.length_nil, Nat.zero_add]
  go_wp2_with fail
  go_ret
  exact ⟨rfl, hB⟩

/-- A slice of edges that came in. -/
def ESl (w : World) (a : Option Addr) (l : List E) : Prop := l ≠ [] → ∃ b o, a = some ⟨b, o, none⟩ ∧ b < w.heap.size ∧ ∀ i (hi : i < l.length) j, j < 3 → w.cell? ⟨b, o + i * 3 + j, none⟩ = (l[i]).cs[j]?
theorem ESl.below {w w' : World} {a : Option Addr} {l : List E} (h : ESl w a l) (hb : Below w.heap.size w w') : ESl w' a l := by
  intro hn
  obtain ⟨b, o, rfl, hl, hc⟩ := h hn
  exact ⟨b, o, rfl, Nat.lt_of_lt_of_le hl hb.size, fun i hi j hj => (hb.cell (p := ⟨b, o + i * 3 + j, none⟩) hl).trans (hc i hi j hj)⟩
def buildE (N : Nat) (l : List E) : List E := l.foldl (addE N) []
def BuildPost (w : World) (N : Nat) (l : List E) (e : Ending) (w' : World) : Prop := ∃ g mb ob bb oc bc vs, e = .returned (.pointer (some ⟨g, 0, none⟩)) ∧ Gr w.heap.size w' g N (buildE N l) mb ob bb oc bc vs ∧ Below w.heap.size w w'
set_option maxHeartbeats 4000000 in
set_option maxRecDepth 100000 in
theorem build_any (N : Nat) (hN : N ≤ 1024) (a : Option Addr) (l : List E) (cap : Nat) (w : World) (hin : ESl w a l) (hlen : l.length ≤ 1000000) : Calls Try.prog 15 #[.int .i64 (N : Int), .slice a l.length cap] w (BuildPost w N l) := by
  have HIN := hid hin
  obtain ⟨len, hl0⟩ : ∃ len, len = l.length := ⟨_, rfl⟩
  rw [← hl0] at hlen ⊢
  have HL := hid hl0
  clear hl0 hin
  go_enter Try.func15, Try.ntmps15
  go_wp2_with fail
  refine (new_good w.heap.size N w hN (Nat.le_refl _)).mono ?_
  rintro e w1 ⟨g, mb, ob, bb, oc, bc, vs, rfl, hG, hB1⟩
  have HG1 := hid hG
  have HB1 := hid hB1
  clear hG hB1
  go_wp2_with fail
  go_loopg [22] len (fun gh s22 wr => ∃ (p : Nat) (mb ob bb : Nat) (oc bc : Array Value) (vs : Nat → Value), p ≤ len ∧ gh = len - p ∧ s22 = .int .i64 p ∧ Hid (Gr w.heap.size wr g N (buildE N (l.take p)) mb ob bb oc bc vs) ∧ Hid (Below w.heap.size w wr))
  case atStart => exact ⟨0, mb, ob, bb, oc, bc, vs, Nat.zero_le _, by omega, rfl, HG1, HB1⟩
  case round =>
    clear HG1 HB1
    obtain ⟨p, mb, ob, bb, oc, bc, vs, hp, rfl, rfl, HG, HB⟩ := hrel
    by_cases hpl : p < len
    · have hpl' : p < l.length := by have := HL.out; omega
      have hne : l ≠ [] := by
        intro h
        rw [h] at hpl'
        simp at hpl'
      obtain ⟨b, o, rfl, hbl, hc⟩ := (HIN.out.below HB.out) hne
      have hx := hc p hpl'
      have hnx : Hid (buildE N (l.take (p + 1)) = addE N (buildE N (l.take p)) l[p]) := hid (by unfold buildE; rw [List.take_succ_eq_append_getElem hpl', List.foldl_append]; rfl)
      clear hc hne
      generalize l[p] = x at *
      have x0 : wr.cell? ⟨b, o + p * 3, none⟩ = some (.int .i64 x.frm) := hx 0 (by omega)
      have x1 : wr.cell? ⟨b, o + p * 3 + 1, none⟩ = some (.int .i64 x.to) := hx 1 (by omega)
      have x2 : wr.cell? ⟨b, o + p * 3 + 2, none⟩ = some (.int .i64 x.lab) := hx 2 (by omega)
      have hpI : (p : Int) < (len : Int) := by omega
      have hp63 : (p : Int) + 1 ≤ 9223372036854775807 := by omega
      have hal := (Below.refl _ wr).alloc (Nat.le_refl _) (.cells #[.int .i64 x.frm, .int .i64 x.to, .int .i64 x.lab] 29)
      have HG2 := hid (HG.out.below hal)
      have HB2 := hid (HB.out.trans (hal.mono HB.out.size))
      clear hx hal HG HB
      go_wp2_with fail
      refine (add_any HG2.out x HB2.out.size).mono ?_
      rintro e w2 ⟨rfl, mb', ob', bb', oc', bc', vs', hG, hB2⟩
      rw [← hnx.out] at hG
      have HG3 := hid hG
      have HB3 := hid (HB2.out.trans hB2)
      clear hG hB2 x0 x1 x2
      go_wp2_with fail
      go_roundg (len - (p + 1))
      case measure => omega
      case rel => exact ⟨p + 1, mb', ob', bb', oc', bc', vs', by omega, rfl, by go_num, HG3, HB3⟩
    · have hpe : len = p := by omega
      subst hpe
      go_wp2_with fail
      go_ret
      refine ⟨g, mb, ob, bb, oc, bc, vs, rfl, ?_, HB.out⟩
      have h1 := HG.out
      rw [List.take_of_length_le (by have := HL.out; omega)] at h1
      exact h1
/-- Does the edge close a cycle over the mask? -/
def Closes (es : List E) (N : Nat) (mask label : Int) (e : E) : Prop := e.lab = label ∧ (e.frm = e.to ∨ WayI es N mask e.to e.frm)
theorem sorted_uniq {es ss ss' : List E} (hp : ss.Perm es) (hs : ss.Pairwise ltE) (hp' : ss'.Perm es) (hs' : ss'.Pairwise ltE) : ss' = ss :=
  List.Perm.eq_of_pairwise (le := ltE) (fun x y _ _ h k => absurd k (ltE_asymm h)) hs' hs (hp'.trans hp.symm)
def OncePost (w : World) (es : List E) (N : Nat) (mask label : Int) (e : Ending) (w' : World) : Prop := ∃ (ss : List E) (x : E) (ok : Bool), e = .returned (.tuple #[x.agg, .bool ok]) ∧ ss.Perm es ∧ ss.Pairwise ltE ∧ Below w.heap.size w w' ∧
  ((ok = true ∧ ∃ i, ∃ hi : i < ss.length, x = ss[i] ∧ Closes es N mask label ss[i] ∧ ∀ j, j < i → ∀ y, ss[j]? = some y → ¬ Closes es N mask label y) ∨ (ok = false ∧ x = ⟨0, 0, 0⟩ ∧ ∀ y ∈ ss, ¬ Closes es N mask label y))
end Go.Proofs.Ytbbfbkoanbdghaa
