/- The space and the document's space side by side: what tells and step answer. No statement is proved here. -/
import Derived.Test.YtedalcocdgmigaaRefC
set_option linter.unusedVariables false
set_option linter.unusedSimpArgs false
namespace Go.Proofs.Ytedalcocdgmigaa
open Go.RowKit

set_option maxHeartbeats 1000000 in
theorem same_any (w : World) (g cap cap2 : Nat) (a2 : Option Addr) (hs : List (Int × Int)) (hlen : (hs.length : Int) ≤ 5000) (hg : g < w.heap.size)
    (hel : ∀ i (hi : i < hs.length), w.cell? ⟨g, i * 2, none⟩ = some (.int .i64 (hs[i]).1) ∧ w.cell? ⟨g, i * 2 + 1, none⟩ = some (.int .i64 (hs[i]).2))
    (hel2 : ∀ i (hi : i < hs.length), ∃ g2, a2 = some ⟨g2, 0, none⟩ ∧ g2 < w.heap.size ∧ w.cell? ⟨g2, i * 2, none⟩ = some (.int .i64 (hs[i]).1) ∧ w.cell? ⟨g2, i * 2 + 1, none⟩ = some (.int .i64 (hs[i]).2)) :
    Calls Try.prog 33 #[.slice (some ⟨g, 0, none⟩) hs.length cap, .slice a2 hs.length cap2] w fun e w' => e = .returned (.bool true) ∧ Below w.heap.size w w' := by
  have Hel := hid hel
  have Hel2 := hid hel2
  clear hel hel2
  go_enter Try.func33, Try.ntmps33
  go_wp2_with fail
  go_loopw [14] (fun i wr => ∃ k : Nat, k ≤ hs.length ∧ i = .int .i64 k ∧ Below w.heap.size w wr) (fun i _ => hs.length - (intOf i).toNat)
  case atStart => exact ⟨0, Nat.zero_le _, rfl, Below.refl _ _⟩
  case round =>
    obtain ⟨k, hk, rfl, hbel⟩ := hrel
    by_cases hlt : k < hs.length
    · obtain ⟨q0, q1⟩ := Hel.out k hlt
      obtain ⟨g2, rfl, hg2, r0, r1⟩ := Hel2.out k hlt
      have q0' := (hbel.cell (p := ⟨g, k * 2, none⟩) hg).trans q0
      have q1' := (hbel.cell (p := ⟨g, k * 2 + 1, none⟩) hg).trans q1
      have r0' := (hbel.cell (p := ⟨g2, k * 2, none⟩) hg2).trans r0
      have r1' := (hbel.cell (p := ⟨g2, k * 2 + 1, none⟩) hg2).trans r1
      have hgr : g < wr.heap.size := Nat.lt_of_lt_of_le hg hbel.size
      have hgr2 : g2 < wr.heap.size := Nat.lt_of_lt_of_le hg2 hbel.size
      clear q0 q1 r0 r1
      generalize (hs[k]).1 = y at *
      generalize (hs[k]).2 = z at *
      go_wp2_with fail
      go_quiet (fail)
      all_goals go_wp2_with fail
      all_goals exact ⟨⟨k + 1, by omega, by go_num, _root_.Go.Proofs.Ytedalcocdgmigaa.Below.drewN (hbel.alloc hbel.size _) _⟩, by simp [intOf]; omega⟩
    · have hkN : k = hs.length := by omega
      subst hkN
      go_wp2_with fail
      go_ret
      exact ⟨rfl, hbel⟩

set_option maxHeartbeats 1000000 in
theorem tells_any (w : World) (p r u : Nat) (o : Option Nat) (n : Int) (hs : List (Int × Int)) (us : List Bool) (hsp : Sp w p o n hs) (hrf : Rf w r u n us) (hag : Agree hs us n) :
    Calls Try.prog 22 #[.pointer (some ⟨p, 0, none⟩), .pointer (some ⟨r, 0, none⟩)] w fun e w' => e = .returned (.bool true) ∧ Below w.heap.size w w' := by
  have Hs := hid hsp
  have Hr := hid hrf
  have Ha := hid hag
  have Hok := hid hsp.ok
  have hhn := hsp.hn
  clear hsp hrf hag
  go_enter Try.func22, Try.ntmps22
  go_wp2_with fail
  refine (left_any p o n hs w Hs.out).mono ?_
  rintro e w1 ⟨rfl, hb1⟩
  have Hs1 := hid (Hs.out.below hb1)
  have Hr1 := hid (Hr.out.below hb1)
  clear Hs Hr
  go_wp2_with fail
  refine (rleft_any r u n us hs w1 Hr1.out Hok.out Ha.out).mono ?_
  rintro e w2 ⟨rfl, hb2⟩
  have Hs2 := hid (Hs1.out.below hb2)
  have Hr2 := hid (Hr1.out.below hb2)
  have hb2' := hb1.trans (hb2.mono hb1.size)
  clear Hs1 Hr1 hb1 hb2
  go_wp2_with fail
  refine (largest_any p o n hs w2 Hs2.out).mono ?_
  rintro e w3 ⟨rfl, hb3⟩
  have Hs3 := hid (Hs2.out.below hb3)
  have Hr3 := hid (Hr2.out.below hb3)
  have hb3' := hb2'.trans (hb3.mono hb2'.size)
  clear Hs2 Hr2 hb2' hb3
  go_wp2_with fail
  refine (rlargest_any r u n us hs w3 Hr3.out Hok.out Ha.out).mono ?_
  rintro e w4 ⟨rfl, hb4⟩
  have Hs4 := hid (Hs3.out.below hb4)
  have Hr4 := hid (Hr3.out.below hb4)
  have hb4' := hb3'.trans (hb4.mono hb3'.size)
  clear Hs3 Hr3 hb3' hb4
  go_wp2_with fail
  refine (holes_any p o n hs w4 Hs4.out).mono ?_
  rintro e w5 ⟨g, cap, rfl, own5, hg5, hb5⟩
  have Hr5 := hid (Hr4.out.below hb5)
  have hb5' := hb4'.trans (hb5.mono hb4'.size)
  have Ho5 := hid own5
  clear Hs4 Hr4 hb4' hb5 own5
  go_wp2_with fail
  refine (rholes_any r u n us hs w5 Hr5.out Hok.out Ha.out).mono ?_
  rintro e w6 ⟨v, rfl, own6, hb6⟩
  have hb6' := hb5'.trans (hb6.mono hb5'.size)
  obtain ⟨hgl, _, gc⟩ := own_cells (own_below Ho5.out hb6)
  obtain ⟨a2, cap2, rfl, hel2⟩ := own2_slice own6
  have Hel := hid gc
  have Hel2 := hid hel2
  clear Hr5 hb5' hb6 own6 gc hel2 Ho5
  go_wp2_with fail
  refine (same_any w6 g cap cap2 a2 hs (by omega) hgl Hel.out (fun i hi => by obtain ⟨g2, h1, _, h2, h3, h4⟩ := Hel2.out i hi; exact ⟨g2, h1, h2, h3, h4⟩)).mono ?_
  rintro e w7 ⟨rfl, hb7⟩
  have hb7' := hb6'.trans (hb7.mono hb6'.size)
  clear hb6' hb7 Hel Hel2 hgl
  go_wp2_with fail
  go_ret
  exact ⟨rfl, hb7'⟩

/-- The space and the reference side by side, all of their blocks new since block B. -/
structure Two (B : Nat) (w : World) (p : Nat) (o : Option Nat) (n : Int) (hs : List (Int × Int)) (r u : Nat) (us : List Bool) : Prop where
  sp : Sp w p o n hs
  rf : Rf w r u n us
  ag : Agree hs us n
  pr : r ≠ p
  pu : u ≠ p
  or : o ≠ some r
  ou : o ≠ some u
  bp : SpNew B p o
  br : B ≤ r
  bu : B ≤ u
theorem Two.below {B : Nat} {w w' : World} {p : Nat} {o : Option Nat} {n : Int} {hs : List (Int × Int)} {r u : Nat} {us : List Bool} (t : Two B w p o n hs r u us) (hb : Below w.heap.size w w') : Two B w' p o n hs r u us :=
  ⟨t.sp.below hb, t.rf.below hb, t.ag, t.pr, t.pu, t.or, t.ou, t.bp, t.br, t.bu⟩
/-- The space makes a step: the reference stands. -/
theorem Two.step {B : Nat} {w w' : World} {p : Nat} {o o' : Option Nat} {n : Int} {hs : List (Int × Int)} {r u : Nat} {us : List Bool} (t : Two B w p o n hs r u us) (h : SpStep w w' p o o') (hB : B ≤ w.heap.size) :
    Rf w' r u n us ∧ o' ≠ some r ∧ o' ≠ some u ∧ SpNew B p o' ∧ Below B w w' := by
  obtain ⟨h1, h2⟩ := h.aside t.pr t.or t.rf.open.1
  obtain ⟨h3, h4⟩ := h.aside t.pu t.ou t.rf.open.2.1
  obtain ⟨h5, h6⟩ := t.bp.step h hB
  exact ⟨t.rf.kept h2 h4, h1, h3, h5, h6⟩
/-- Then the reference makes its step. -/
theorem Two.both {B : Nat} {w w1 w2 : World} {p : Nat} {o o' : Option Nat} {n f c : Int} {v : Bool} {hs hs' : List (Int × Int)} {r u : Nat} {us : List Bool} (t : Two B w p o n hs r u us) (h : SpStep w w1 p o o') (hB : B ≤ w.heap.size)
    (hsp : Sp w1 p o' n hs') (hr : RStep r u n us f c v w1 w2) (hfr : ∀ x, 0 ≤ x → x < n → freeB hs' x = if f ≤ x ∧ x < f + c then !v else freeB hs x) : ∃ us', Two B w2 p o' n hs' r u us' ∧ Below B w w2 := by
  obtain ⟨hrf, hor, hou, hnew, hbel⟩ := t.step h hB
  obtain ⟨us', hr', hu', hx'⟩ := hr
  refine ⟨us', ⟨hsp.upd hu' (fun e => t.pu e.symm) (fun k hk e => hou (by rw [hk, e])), hr', fun x h0 h1 => ?_, t.pr, t.pu, hor, hou, hnew, t.br, t.bu⟩, hbel.trans (hu'.below (Nat.le_trans hB hbel.size) (fun k hk => by rw [hk]; exact t.bu))⟩
  rw [hfr x h0 h1, hx' x h0]
  split
  · rfl
  · exact t.ag x h0 h1
theorem first_unique {c : Int} : ∀ {A A' B B' : List (Int × Int)} {h h' : Int × Int}, A ++ h :: B = A' ++ h' :: B' → (∀ a ∈ A, a.2 < c) → c ≤ h.2 → (∀ a ∈ A', a.2 < c) → c ≤ h'.2 → A = A' ∧ h = h' ∧ B = B'
  | [], [], B, B', h, h', e, _, _, _, _ => by simp at e; exact ⟨rfl, e.1, e.2⟩
  | [], y :: A', B, B', h, h', e, _, h2, h3, _ => by
    simp at e
    have := h3 y (by simp)
    rw [← e.1] at this
    omega
  | y :: A, [], B, B', h, h', e, h1, _, _, h4 => by
    simp at e
    have := h1 y (by simp)
    rw [e.1] at this
    omega
  | y :: A, y' :: A', B, B', h, h', e, h1, h2, h3, h4 => by
    simp at e
    obtain ⟨i1, i2, i3⟩ := first_unique e.2 (fun a ha => h1 a (by simp [ha])) h2 (fun a ha => h3 a (by simp [ha])) h4
    exact ⟨by rw [e.1, i1], i2, i3⟩
end Go.Proofs.Ytedalcocdgmigaa
