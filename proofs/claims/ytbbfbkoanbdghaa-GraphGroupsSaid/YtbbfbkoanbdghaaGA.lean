/- An edge as plain data and as cells; the library's cmp.Compare and cmp.Or; compare. No statement is proved here. -/
import Derived.Test.YtbbfbkoanbdghaaProg
import Derived.Test.YtbbfbkoanbdghaaRow
import Derived.StillTailTactics
import Derived.Deep.Cut
import Derived.Sort.Grow
set_option linter.unusedVariables false
set_option linter.unusedSimpArgs false
namespace Go.Proofs.Ytbbfbkoanbdghaa
open Go.RowKit Go.Sort

/-- w' is w with draws and new blocks alone. -/
def Laid (w w' : World) : Prop := ∃ q os, w' = grow (w.drewN q) os
theorem Laid.refl (w : World) : Laid w w := ⟨0, #[], by rw [grow_empty]; rfl⟩
theorem Laid.alloc {w w' : World} (h : Laid w w') (o : Obj) : Laid w (w'.alloc o) := by
  obtain ⟨q, os, rfl⟩ := h
  exact ⟨q, os ++ #[o], by rw [alloc_eq_grow, grow_grow]⟩
theorem Laid.drewN {w w' : World} (h : Laid w w') (n : Nat) : Laid w (w'.drewN n) := by
  obtain ⟨q, os, rfl⟩ := h
  exact ⟨q + n, os, by simp [grow, World.drewN, Nat.add_assoc]⟩
theorem Laid.drew {w w' : World} (h : Laid w w') : Laid w w'.drew := h.drewN 1
theorem Laid.trans {a b c : World} (h : Laid a b) (k : Laid b c) : Laid a c := by
  obtain ⟨q, os, rfl⟩ := k
  obtain ⟨m, os', e⟩ := h.drewN q
  exact ⟨m, os' ++ os, by rw [e, grow_grow]⟩
theorem Laid.below {w w' : World} (h : Laid w w') : Below w.heap.size w w' := by
  obtain ⟨q, os, rfl⟩ := h
  refine ⟨rfl, rfl, rfl, by simp [grow, World.drewN], fun k hk => ?_⟩
  simp only [grow, World.drewN]
  rw [Array.getElem?_append_left hk]


structure E where
  frm : Int
  to : Int
  lab : Int
deriving DecidableEq
def E.cs (x : E) : List Value := [.int .i64 x.frm, .int .i64 x.to, .int .i64 x.lab]
abbrev E.agg (x : E) : Value := .agg #[.int .i64 x.frm, .int .i64 x.to, .int .i64 x.lab]
instance : Inhabited E := ⟨⟨0, 0, 0⟩⟩
def cmpI (a b : Int) : Int := if a < b then -1 else if b < a then 1 else 0
def orI (a b : Int) : Int := if a = 0 then b else a
def cmpE (x y : E) : Int := orI (cmpI x.frm y.frm) (orI (cmpI x.to y.to) (cmpI x.lab y.lab))

theorem cmp_any (a b : Int) (w : World) : Calls Try.prog 38 #[.int .i64 a, .int .i64 b] w fun e w' => e = .returned (.int .i64 (cmpI a b)) ∧ w' = w := by
  by_cases h1 : a < b
  · have e1 : cmpI a b = -1 := by simp [cmpI, h1]
    rw [e1]
    go_enter Try.func38, Try.ntmps38
    go_wp2
    go_ret
    exact ⟨rfl, rfl⟩
  · by_cases h2 : b < a
    · have e1 : cmpI a b = 1 := by simp [cmpI, h1, h2]
      rw [e1]
      go_enter Try.func38, Try.ntmps38
      go_wp2
      go_ret
      exact ⟨rfl, rfl⟩
    · have e1 : cmpI a b = 0 := by simp [cmpI, h1, h2]
      rw [e1]
      go_enter Try.func38, Try.ntmps38
      go_wp2
      go_ret
      exact ⟨rfl, rfl⟩


def OrPost (c0 c1 c2 : Int) (w : World) (e : Ending) (w' : World) : Prop := e = .returned (.int .i64 (orI c0 (orI c1 c2))) ∧ w' = w
theorem or_any (b : Nat) (c0 c1 c2 : Int) (w : World) (h : w.heap[b]? = some (.cells #[.int .i64 c0, .int .i64 c1, .int .i64 c2] 3 (0, 0))) :
    Calls Try.prog 47 #[.slice (some ⟨b, 0, none⟩) 3 3] w (OrPost c0 c1 c2 w) := by
  have r0 : w.cell? ⟨b, 0, none⟩ = some (.int .i64 c0) := (blk_cell h 0).trans rfl
  have r1 : w.cell? ⟨b, 1, none⟩ = some (.int .i64 c1) := (blk_cell h 1).trans rfl
  have r2 : w.cell? ⟨b, 2, none⟩ = some (.int .i64 c2) := (blk_cell h 2).trans rfl
  clear h
  go_enter Try.func47, Try.ntmps47
  go_wp2
  go_loopw [8] (fun i wx => ∃ k : Nat, k ≤ 3 ∧ i = .int .i64 k ∧ Hid ((1 ≤ k → c0 = 0) ∧ (2 ≤ k → c1 = 0) ∧ (3 ≤ k → c2 = 0)) ∧ wx = w) (fun i _ => 3 - (intOf i).toNat)
  case atStart => exact ⟨0, by omega, rfl, hid ⟨fun h => by omega, fun h => by omega, fun h => by omega⟩, rfl⟩
  case round =>
    obtain ⟨k, hk, rfl, H, rfl⟩ := hrel
    obtain rfl | rfl | rfl | rfl : k = 0 ∨ k = 1 ∨ k = 2 ∨ k = 3 := by omega
    · by_cases hz : c0 = 0
      · have hz' : (c0 == 0) = true := by rw [hz]; rfl
        have Hz := hid hz
        clear hz
        go_wp2
        exact ⟨⟨1, by omega, by first | rfl | trivial, hid ⟨fun h => Hz.out, fun h => by omega, fun h => by omega⟩, by first | rfl | trivial⟩, by simp [intOf]⟩
      · have hz' : (c0 == 0) = false := beq_eq_false_iff_ne.mpr hz
        have hr : orI c0 (orI c1 c2) = c0 := by
          have h1 := H.out.1; have h2 := H.out.2.1
          simp [orI]
          simp_all
        go_wp2
        go_ret
        exact ⟨by rw [hr]; rfl, rfl⟩
    · by_cases hz : c1 = 0
      · have hz' : (c1 == 0) = true := by rw [hz]; rfl
        have Hz := hid hz
        clear hz
        go_wp2
        exact ⟨⟨2, by omega, by first | rfl | trivial, hid ⟨fun h => H.out.1 (by omega), fun h => Hz.out, fun h => by omega⟩, by first | rfl | trivial⟩, by simp [intOf]⟩
      · have hz' : (c1 == 0) = false := beq_eq_false_iff_ne.mpr hz
        have hr : orI c0 (orI c1 c2) = c1 := by
          have h1 := H.out.1; have h2 := H.out.2.1
          simp [orI]
          simp_all
        go_wp2
        go_ret
        exact ⟨by rw [hr]; rfl, rfl⟩
    · by_cases hz : c2 = 0
      · have hz' : (c2 == 0) = true := by rw [hz]; rfl
        have Hz := hid hz
        clear hz
        go_wp2
        exact ⟨⟨3, by omega, by first | rfl | trivial, hid ⟨fun h => H.out.1 (by omega), fun h => H.out.2.1 (by omega), fun h => Hz.out⟩, by first | rfl | trivial⟩, by simp [intOf]⟩
      · have hz' : (c2 == 0) = false := beq_eq_false_iff_ne.mpr hz
        have hr : orI c0 (orI c1 c2) = c2 := by
          have h1 := H.out.1; have h2 := H.out.2.1
          simp [orI]
          simp_all
        go_wp2
        go_ret
        exact ⟨by rw [hr]; rfl, rfl⟩
    · have hr : orI c0 (orI c1 c2) = 0 := by
        obtain ⟨h1, h2, h3⟩ := H.out
        rw [h1 (by omega), h2 (by omega), h3 (by omega)]
        rfl
      go_wp2
      go_ret
      exact ⟨by rw [hr]; rfl, rfl⟩

set_option maxHeartbeats 1000000 in
set_option maxRecDepth 100000 in
theorem compare_any (x y : E) (w : World) : Calls Try.prog 31 #[x.agg, y.agg] w fun e w' => e = .returned (.int .i64 (cmpE x y)) ∧ Laid w w' := by
  unfold cmpE
  go_enter Try.func31, Try.ntmps31
  go_upto_region 1 with fail
  have h1 := (heap_alloc2_old w (.cells #[.int .i64 x.frm, .int .i64 x.to, .int .i64 x.lab] 29) (.cells #[.int .i64 y.frm, .int .i64 y.to, .int .i64 y.lab] 29))
  have h2 := (heap_alloc2_new w (.cells #[.int .i64 x.frm, .int .i64 x.to, .int .i64 x.lab] 29) (.cells #[.int .i64 y.frm, .int .i64 y.to, .int .i64 y.lab] 29))
  have hb : Laid w ((w.alloc (.cells #[.int .i64 x.frm, .int .i64 x.to, .int .i64 x.lab] 29)).alloc (.cells #[.int .i64 y.frm, .int .i64 y.to, .int .i64 y.lab] 29)) := ((Laid.refl _).alloc _).alloc _
  generalize (w.alloc (.cells #[.int .i64 x.frm, .int .i64 x.to, .int .i64 x.lab] 29)).alloc (.cells #[.int .i64 y.frm, .int .i64 y.to, .int .i64 y.lab] 29) = w2 at *
  generalize w.heap.size = bx at *
  have x0 : w2.cell? ⟨bx, 0, none⟩ = some (.int .i64 x.frm) := (blk_cell h1 0).trans rfl
  have x1 : w2.cell? ⟨bx, 1, none⟩ = some (.int .i64 x.to) := (blk_cell h1 1).trans rfl
  have x2 : w2.cell? ⟨bx, 2, none⟩ = some (.int .i64 x.lab) := (blk_cell h1 2).trans rfl
  have y0 : w2.cell? ⟨bx + 1, 0, none⟩ = some (.int .i64 y.frm) := (blk_cell h2 0).trans rfl
  have y1 : w2.cell? ⟨bx + 1, 1, none⟩ = some (.int .i64 y.to) := (blk_cell h2 1).trans rfl
  have y2 : w2.cell? ⟨bx + 1, 2, none⟩ = some (.int .i64 y.lab) := (blk_cell h2 2).trans rfl
  clear h1 h2
  refine wp_region_still_tail 15 (by kernel_rfl) (by kernel_rfl) ?_
  simp only [List.take_succ_cons, List.take_zero, List.drop_succ_cons, List.drop_zero]
  iterate 3
    still_step
    still_step
    still_step
    still_step
    still_call (cmp_any _ _ _)
  refine wpStill_nil ?_
  clear x0 x1 x2 y0 y1 y2
  change wpList _ _ _ _ _ w2.drew
  have hb' := hb.drew
  generalize w2.drew = w3 at *
  clear hb
  go_wp2_with fail
  refine (or_any _ _ _ _ _ (heap_alloc_new w3 _)).mono ?_
  rintro e w' ⟨rfl, rfl⟩
  go_wp2_with fail
  go_ret
  exact ⟨rfl, hb'.alloc _⟩

/-! ### The order -/
theorem cmpI_neg {a b : Int} : cmpI a b < 0 ↔ a < b := by unfold cmpI; split <;> (try split) <;> omega
theorem cmpI_pos {a b : Int} : 0 < cmpI a b ↔ b < a := by unfold cmpI; split <;> (try split) <;> omega
theorem cmpI_zero {a b : Int} : cmpI a b = 0 ↔ a = b := by unfold cmpI; split <;> (try split) <;> omega
def ltE (x y : E) : Prop := x.frm < y.frm ∨ x.frm = y.frm ∧ (x.to < y.to ∨ x.to = y.to ∧ x.lab < y.lab)
theorem cmpE_neg {x y : E} : cmpE x y < 0 ↔ ltE x y := by
  unfold cmpE ltE orI
  by_cases h1 : cmpI x.frm y.frm = 0
  · rw [if_pos h1]
    have h1' := cmpI_zero.1 h1
    by_cases h2 : cmpI x.to y.to = 0
    · rw [if_pos h2, cmpI_neg]
      have h2' := cmpI_zero.1 h2
      omega
    · rw [if_neg h2, cmpI_neg]
      have h2' : ¬ x.to = y.to := fun e => h2 (cmpI_zero.2 e)
      omega
  · rw [if_neg h1, cmpI_neg]
    have h1' : ¬ x.frm = y.frm := fun e => h1 (cmpI_zero.2 e)
    omega
theorem ltE_irrefl (p : E) : ¬ ltE p p := by unfold ltE; omega
theorem ltE_trans {p q r : E} (h : ltE p q) (k : ltE q r) : ltE p r := by unfold ltE at *; omega
theorem ltE_asymm {p q : E} (h : ltE p q) : ¬ ltE q p := by unfold ltE at *; omega
theorem ltE_ntrans {p q r : E} (h : ¬ ltE p q) (k : ¬ ltE q r) : ¬ ltE p r := by unfold ltE at *; omega
theorem ltE_total {p q : E} (h : p ≠ q) : ltE p q ∨ ltE q p := by
  rcases p with ⟨a, b, c⟩
  rcases q with ⟨a', b', c'⟩
  have h' : ¬ (a = a' ∧ b = b' ∧ c = c') := fun ⟨h1, h2, h3⟩ => h (by rw [h1, h2, h3])
  unfold ltE
  simp only
  omega
end Go.Proofs.Ytbbfbkoanbdghaa
