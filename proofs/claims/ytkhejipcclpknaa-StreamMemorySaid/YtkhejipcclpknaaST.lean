/- Drop gives a file's blocks back. No statement is proved here. -/
import Derived.Test.YtkhejipcclpknaaSM
import Derived.Test.YtkhejipcclpknaaSR
set_option linter.unusedVariables false
set_option linter.unusedSimpArgs false
namespace Go.Proofs.Ytkhejipcclpknaa
open Go.RowKit

def freeR (n : Nat) (F : Int → Bool) (b : Int) : Int := if 0 ≤ b ∧ b < n then (if F b = true then 44 else 0) else 43
def dropS (n : Nat) (S : Int × (Int → Bool)) (b : Nat) : Int × (Int → Bool) := (if S.1 = 0 then freeR n S.2 (b : Int) else S.1, free1F n S.2 (b : Int))
def dropAll (n : Nat) (F : Int → Bool) (l : List Nat) : Int × (Int → Bool) := l.foldl (dropS n) (0, F)
theorem dropAll_snoc (n : Nat) (F : Int → Bool) (l : List Nat) (b : Nat) : dropAll n F (l ++ [b]) = dropS n (dropAll n F l) b := by
  unfold dropAll
  rw [List.foldl_append]
  rfl
def DropPost (w : World) (s : Nat) (os : Option Nat) (n : Nat) (F : Int → Bool) (l : List Nat) (e : Ending) (w' : World) : Prop :=
  e = .returned (.int .i64 (dropAll n F l).1) ∧ ∃ os', SpF w' s os' n (dropAll n F l).2 ∧ (∀ k, os' = some k → os = some k ∨ w.heap.size ≤ k) ∧ Upd (sS s os) w w'
set_option maxHeartbeats 4000000 in
set_option maxRecDepth 100000 in
theorem drop_any {w : World} {s : Nat} {os : Option Nat} {n : Nat} {F : Int → Bool} (hs : SpF w s os n F) {vb : Value} {l : List Nat} (hv : w.ownsRow 0 3 1 vb l.length (cellsN l)) (hd : ∀ k, vb.ownBlock = some k → ¬ sS s os k) (hlen : l.length ≤ 1000000) (sz : Int) :
    Calls Try.prog 26 #[.pointer (some ⟨s, 0, none⟩), .agg #[vb, .int .i64 sz]] w (DropPost w s os n F l) := by
  obtain ⟨a, cap, rfl⟩ : ∃ a cap, vb = .slice a l.length cap := by
    rcases hv.2 with ⟨hh, h0⟩ | ⟨b, cap, cur, hh, _⟩
    · exact ⟨none, 0, by rw [hh, h0]⟩
    · exact ⟨_, _, hh⟩
  have HC : Hid (l ≠ [] → ∃ b, a = some ⟨b, 0, none⟩ ∧ b < w.heap.size ∧ ¬ sS s os b ∧ ∀ i (hi : i < l.length), w.cell? ⟨b, i, none⟩ = some (.int .i64 (l[i] : Nat))) := hid (by
    intro hne
    rcases hv.2 with ⟨_, h0⟩ | ⟨b, cc, cur, hh, _, hg, _⟩
    · exact absurd (List.eq_nil_of_length_eq_zero h0) hne
    · have ha : a = some ⟨b, 0, none⟩ := by cases hh; rfl
      refine ⟨b, ha, blk_lt hg, hd b (by rw [ha]; rfl), fun i hi => ?_⟩
      have := hv.cells (g := b) (by rw [ha]; rfl) i _ (cellsN_get l i hi)
      rw [Addr.add_lit, Nat.zero_add] at this
      exact this)
  have hal := (Below.refl _ w).alloc (Nat.le_refl _) (.cells #[.slice a l.length cap, .int .i64 sz] 39)
  have HAL := hid hal
  have HS0 := hid (hs.below hal)
  have HLT := hid hs.lt
  clear hs hv hd hal
  go_enter Try.func26, Try.ntmps26
  go_wp2_with fail
  obtain ⟨w1, hw1⟩ : ∃ w1, w.alloc (.cells #[.slice a l.length cap, .int .i64 sz] 39) = w1 := ⟨_, rfl⟩
  rw [hw1] at HAL HS0 ⊢
  clear hw1
  go_loopg [5, 12] l.length (fun gh s5 s12 wr => ∃ (i : Nat) (osi : Option Nat), i ≤ l.length ∧ gh = l.length - i ∧ s5 = .int .i64 (dropAll n F (l.take i)).1 ∧ s12 = .int .i64 i ∧ Hid (SpF wr s osi n (dropAll n F (l.take i)).2) ∧ Hid (∀ k, osi = some k → os = some k ∨ w.heap.size ≤ k) ∧ Hid (Upd (sS s os) w wr))
  case atStart => exact ⟨0, os, Nat.zero_le _, by omega, rfl, rfl, hid HS0.out, hid fun k hk => .inl hk, hid (Upd.of_new HAL.out)⟩
  case round =>
    obtain ⟨i, osi, hi, rfl, rfl, rfl, HS, HN, HU⟩ := hrel
    by_cases hil : i < l.length
    · have hne : l ≠ [] := by
        intro h
        rw [h] at hil
        simp at hil
      obtain ⟨b, rfl, hbl, hbs, hc⟩ := HC.out hne
      have cb : wr.cell? ⟨b, i, none⟩ = some (.int .i64 (l[i] : Nat)) := (HU.out.cell (p := ⟨b, i, none⟩) hbl hbs).trans (hc i hil)
      have hilI : (i : Int) < (l.length : Int) := by omega
      have hi63 : IntKind.i64.wrap ((i : Int) + 1) = (i : Int) + 1 := wrap_id (by omega) (by omega)
      have HT := hid (show l.take (i + 1) = l.take i ++ [l[i]] from List.take_succ_eq_append_getElem hil)
      obtain ⟨x, hx⟩ : ∃ x, x = l[i] := ⟨_, rfl⟩
      rw [← hx] at cb HT
      obtain ⟨S, hS⟩ : ∃ S, S = dropAll n F (l.take i) := ⟨_, rfl⟩
      have HSN := hid (show dropAll n F (l.take (i + 1)) = dropS n S x by rw [HT.out, dropAll_snoc, hS])
      rw [← hS] at HS ⊢
      have HF := hid (free1_any HS.out (x : Int))
      clear hc hbs hne hx hbl hS
      obtain ⟨r, hr⟩ : ∃ r, r = freeR n S.2 (x : Int) := ⟨_, rfl⟩
      have HRR := hid hr
      obtain ⟨f, hf⟩ : ∃ f, f = S.1 := ⟨_, rfl⟩
      have HFF := hid hf
      rw [← hf]
      clear hr hf
      have fin : ∀ (w3 : World) (os3 : Option Nat), SpF w3 s os3 n (free1F n S.2 (x : Int)) → SpStep wr w3 s osi os3 → Hid (SpF w3 s os3 n (dropAll n F (l.take (i + 1))).2) ∧ Hid (∀ k, os3 = some k → os = some k ∨ w.heap.size ≤ k) ∧ Hid (Upd (sS s os) w w3) := fun w3 os3 h3 hst => ⟨hid (by rw [HSN.out]; exact h3), hid fun k hk => by
        rcases hst.new k hk with h | h
        · exact HN.out k h
        · exact .inr (Nat.le_trans HU.out.size h), hid (HU.out.trans hst.upd fun k hkl hk => by
          rcases hk with rfl | hk
          · exact .inl rfl
          · rcases HN.out k hk with h | h
            · exact .inr h
            · omega)⟩
      have FIN := hid fin
      clear fin
      have HF2 : Hid (Calls Try.prog 39 #[.pointer (some ⟨s, 0, none⟩), .agg #[.int .i64 (x : Int), .int .i64 1]] wr fun e w3 => e = .returned (.int .i64 r) ∧ ∃ os3, Hid (SpF w3 s os3 n (dropAll n F (l.take (i + 1))).2) ∧ Hid (∀ k, os3 = some k → os = some k ∨ w.heap.size ≤ k) ∧ Hid (Upd (sS s os) w w3)) := hid (HF.out.mono fun e w3 ⟨r', os3, he, h3, hst, hr'⟩ => ⟨by rw [he, hr', HRR.out]; rfl, os3, FIN.out w3 os3 h3 hst⟩)
      clear HF
      by_cases hr0 : r = 0
      · have HE := hid (show (dropAll n F (l.take (i + 1))).1 = f by
          rw [HSN.out, HFF.out]
          unfold dropS
          by_cases h0 : S.1 = 0
          · rw [if_pos h0, ← HRR.out, hr0, h0]
          · rw [if_neg h0])
        subst hr0
        go_wp2_with (go_at_call 39; refine HF2.out.mono ?_; rintro e w3 ⟨rfl, os3, h3, hn3, hu3⟩)
        go_roundg (l.length - (i + 1))
        case measure => omega
        case rel => exact ⟨i + 1, os3, by omega, rfl, by rw [HE.out], by go_num, h3, hn3, hu3⟩
      · have b1 : (r == 0) = false := beq_eq_false_iff_ne.mpr hr0
        have b2 : decide (r = 0) = false := decide_eq_false hr0
        by_cases hf0 : f = 0
        · have HE := hid (show (dropAll n F (l.take (i + 1))).1 = r by
            rw [HSN.out]
            unfold dropS
            rw [if_pos (by rw [← HFF.out]; exact hf0), HRR.out])
          subst hf0

          go_wp2_with (go_at_call 39; refine HF2.out.mono ?_; rintro e w3 ⟨rfl, os3, h3, hn3, hu3⟩)
          go_roundg (l.length - (i + 1))
          case measure => omega
          case rel => exact ⟨i + 1, os3, by omega, rfl, by rw [HE.out], by go_num, h3, hn3, hu3⟩
        · have HE := hid (show (dropAll n F (l.take (i + 1))).1 = f by
            rw [HSN.out]
            unfold dropS
            rw [if_neg (by rw [← HFF.out]; exact hf0), HFF.out])
          have d1 : (f == 0) = false := beq_eq_false_iff_ne.mpr hf0
          have d2 : decide (f = 0) = false := decide_eq_false hf0

          go_wp2_with (go_at_call 39; refine HF2.out.mono ?_; rintro e w3 ⟨rfl, os3, h3, hn3, hu3⟩)
          go_roundg (l.length - (i + 1))
          case measure => omega
          case rel => exact ⟨i + 1, os3, by omega, rfl, by rw [HE.out], by go_num, h3, hn3, hu3⟩
    · have hie : i = l.length := by omega
      subst hie
      rw [List.take_length] at HS ⊢
      go_wp2_with fail
      go_ret
      exact ⟨rfl, osi, HS.out, HN.out, HU.out⟩
end Go.Proofs.Ytkhejipcclpknaa
