/- Write with as many rounds as it needs; a writer with its device and space. No statement is proved here. -/
import Derived.Test.YtkhejipcclpknaaSW
set_option linter.unusedVariables false
set_option linter.unusedSimpArgs false
namespace Go.Proofs.Ytkhejipcclpknaa
open Go.RowKit

theorem wAlloc_buf {n : Nat} {W W1 : Wt} {F F1 : Int → Bool} (h : wAlloc n W F = some (W1, F1)) : W1.buf = W.buf ∧ W1.unit = W.unit ∧ W1.size = W.size ∧ W1.fault = W.fault ∧ W1.closed = W.closed := by
  unfold wAlloc at h
  split at h
  · rw [Option.map_eq_some_iff] at h
    obtain ⟨b, _, hb⟩ := h
    cases hb
    exact ⟨rfl, rfl, rfl, rfl, rfl⟩
  · cases h
    exact ⟨rfl, rfl, rfl, rfl, rfl⟩
theorem wK_pos {W : Wt} {l : List Int} (hl : l ≠ []) (hu : W.buf.length < W.unit) : 1 ≤ wK W l ∧ wK W l ≤ l.length ∧ wK W l ≤ W.unit - W.buf.length := by
  have := List.length_pos_iff.2 hl
  unfold wK
  omega
theorem wTake_len {W : Wt} {l : List Int} : (wTake W l).buf.length = W.buf.length + wK W l := by
  unfold wTake wK
  simp
theorem wFlush_buf {n : Nat} {W : Wt} {D : Dv} {F : Int → Bool} (hn : W.blocks ≠ []) (h : (wFlush n W D F).1 = 0) : (wFlush n W D F).2.1 = { W with buf := [] } := by
  unfold wFlush at h ⊢
  split
  · rename_i hl
    rw [List.getLast?_eq_none_iff] at hl
    exact absurd hl hn
  · rename_i b hl
    rw [hl] at h
    simp only at h
    split
    · rfl
    · rename_i h1
      rw [if_neg h1] at h
      exact absurd h h1
/-- Enough rounds are enough. -/
theorem wrLoop_fuel (n : Nat) : ∀ (f f' : Nat) (W : Wt) (D : Dv) (F : Int → Bool) (l : List Int), l.length < f → l.length < f' → W.buf.length < W.unit → (W.buf ≠ [] → W.blocks ≠ []) → wrLoop n f W D F l = wrLoop n f' W D F l
  | 0, _, _, _, _, _, h, _, _, _ => by omega
  | _, 0, _, _, _, _, _, h, _, _ => by omega
  | f + 1, f' + 1, W, D, F, l, h1, h2, h3, h4 => by
    unfold wrLoop
    by_cases hl : l = []
    · rw [if_pos hl, if_pos hl]
    · rw [if_neg hl, if_neg hl]
      cases ha : wAlloc n W F with
      | none => rfl
      | some p =>
        obtain ⟨W1, F1⟩ := p
        obtain ⟨e1, e2, _⟩ := wAlloc_buf ha
        have hb1 : W1.blocks ≠ [] := by
          unfold wAlloc at ha
          split at ha
          · rw [Option.map_eq_some_iff] at ha
            obtain ⟨b, _, hb⟩ := ha
            cases hb
            simp
          · rename_i hne
            cases ha
            exact h4 hne
        have hk := wK_pos (W := W1) hl (by rw [e1, e2]; exact h3)
        have ht := wTake_len (W := W1) (l := l)
        simp only
        by_cases hf : (wTake W1 l).buf.length = W1.unit
        · rw [if_pos hf, if_pos hf]
          by_cases h0 : (wFlush n (wTake W1 l) D F1).1 = 0
          · rw [if_pos h0, if_pos h0]
            have hw := wFlush_buf (W := wTake W1 l) hb1 h0
            refine wrLoop_fuel n f f' _ _ _ _ (by rw [List.length_drop]; omega) (by rw [List.length_drop]; omega) ?_ ?_
            · rw [hw]
              show 0 < W1.unit
              omega
            · rw [hw]
              intro h
              exact absurd rfl h
          · rw [if_neg h0, if_neg h0]
        · rw [if_neg hf, if_neg hf]
          refine wrLoop_fuel n f f' _ _ _ _ (by rw [List.length_drop]; omega) (by rw [List.length_drop]; omega) ?_ (fun _ => hb1)
          show (wTake W1 l).buf.length < W1.unit
          omega
/-- What Write answers and leaves. -/
def wWrite (n : Nat) (W : Wt) (D : Dv) (F : Int → Bool) (l : List Int) : Int × Wt × Dv × (Int → Bool) := wrLoop n (l.length + 1) W D F l
theorem wWrite_nil (n : Nat) (W : Wt) (D : Dv) (F : Int → Bool) : wWrite n W D F [] = (0, W, D, F) := rfl
theorem wWrite_none {n : Nat} {W : Wt} {D : Dv} {F : Int → Bool} {l : List Int} (hl : l ≠ []) (h : wAlloc n W F = none) : wWrite n W D F l = (42, W.spoil 42, D, freeAll n F W.blocks) := by
  unfold wWrite wrLoop
  rw [if_neg hl, h]
theorem wWrite_bad {n : Nat} {W W1 : Wt} {D : Dv} {F F1 : Int → Bool} {l : List Int} (hl : l ≠ []) (h : wAlloc n W F = some (W1, F1)) (hf : (wTake W1 l).buf.length = W1.unit) (h0 : (wFlush n (wTake W1 l) D F1).1 ≠ 0) : wWrite n W D F l = wFlush n (wTake W1 l) D F1 := by
  unfold wWrite wrLoop
  rw [if_neg hl, h]
  simp only
  rw [if_pos hf, if_neg h0]
theorem wWrite_full {n : Nat} {W W1 : Wt} {D : Dv} {F F1 : Int → Bool} {l : List Int} (hl : l ≠ []) (h : wAlloc n W F = some (W1, F1)) (hu : W.buf.length < W.unit) (hb : W1.blocks ≠ []) (hf : (wTake W1 l).buf.length = W1.unit) (h0 : (wFlush n (wTake W1 l) D F1).1 = 0) :
    wWrite n W D F l = wWrite n { wTake W1 l with buf := [] } (wFlush n (wTake W1 l) D F1).2.2.1 (wFlush n (wTake W1 l) D F1).2.2.2 (l.drop (wK W1 l)) := by
  obtain ⟨e1, e2, _⟩ := wAlloc_buf h
  have hk := wK_pos (W := W1) hl (by rw [e1, e2]; exact hu)
  conv => lhs; unfold wWrite wrLoop
  rw [if_neg hl, h]
  simp only
  rw [if_pos hf, if_pos h0, wFlush_buf (W := wTake W1 l) hb h0]
  exact wrLoop_fuel n _ _ _ _ _ _ (by rw [List.length_drop]; omega) (by rw [List.length_drop]; omega) (by show 0 < W1.unit; omega) (fun h => absurd rfl h)
theorem wWrite_part {n : Nat} {W W1 : Wt} {D : Dv} {F F1 : Int → Bool} {l : List Int} (hl : l ≠ []) (h : wAlloc n W F = some (W1, F1)) (hu : W.buf.length < W.unit) (hb : W1.blocks ≠ []) (hf : (wTake W1 l).buf.length ≠ W1.unit) :
    wWrite n W D F l = wWrite n (wTake W1 l) D F1 (l.drop (wK W1 l)) := by
  obtain ⟨e1, e2, _⟩ := wAlloc_buf h
  have hk := wK_pos (W := W1) hl (by rw [e1, e2]; exact hu)
  have ht := wTake_len (W := W1) (l := l)
  conv => lhs; unfold wWrite wrLoop
  rw [if_neg hl, h]
  simp only
  rw [if_neg hf]
  exact wrLoop_fuel n _ _ _ _ _ _ (by rw [List.length_drop]; omega) (by rw [List.length_drop]; omega) (by show (wTake W1 l).buf.length < W1.unit; omega) (fun _ => hb)
/-- A writer with its device and its space. -/
structure Wh (w : World) (p s : Nat) (d : Dl) (o o' os : Option Nat) (n : Nat) (F : Int → Bool) (W : Wt) (D : Dv) : Prop where
  wt : WtM w p d.g s o o' W
  dv : DvM w d D
  sp : SpF w s os n F
  ap : Apart3 p o o' d s os
structure WhStep (w w' : World) (p s : Nat) (d : Dl) (o o' os o1 o1' os1 : Option Nat) : Prop where
  h1 : Heir w o o1
  h2 : Heir w o' o1'
  h3 : Heir w os os1
  up : Upd (allS p o o' d s os) w w'
theorem Heir.refl (w : World) (o : Option Nat) : Heir w o o := fun _ h => .inl h
theorem Heir.trans {w w' : World} {o o1 o2 : Option Nat} (h : Heir w o o1) (k : Heir w' o1 o2) (hs : w.heap.size ≤ w'.heap.size) : Heir w o o2 := fun b hb => by
  rcases k b hb with h1 | h1
  · exact h b h1
  · exact .inr (Nat.le_trans hs h1)
theorem WhStep.refl (w : World) (p s : Nat) (d : Dl) (o o' os : Option Nat) : WhStep w w p s d o o' os o o' os := ⟨Heir.refl _ _, Heir.refl _ _, Heir.refl _ _, Upd.refl _ _⟩
theorem allS_heir {w : World} {p s : Nat} {d : Dl} {o o' os o1 o1' os1 : Option Nat} (h1 : Heir w o o1) (h2 : Heir w o' o1') (h3 : Heir w os os1) (k : Nat) (hk : k < w.heap.size) (h : allS p o1 o1' d s os1 k) : allS p o o' d s os k := by
  rcases h with (h | h | h) | h | (h | h)
  · exact .inl (.inl h)
  · rcases h1 k h with e | e
    · exact .inl (.inr (.inl e))
    · omega
  · rcases h2 k h with e | e
    · exact .inl (.inr (.inr e))
    · omega
  · exact .inr (.inl h)
  · exact .inr (.inr (.inl h))
  · rcases h3 k h with e | e
    · exact .inr (.inr (.inr e))
    · omega
theorem WhStep.trans {w w' w'' : World} {p s : Nat} {d : Dl} {o o' os o1 o1' os1 o2 o2' os2 : Option Nat} (h : WhStep w w' p s d o o' os o1 o1' os1) (k : WhStep w' w'' p s d o1 o1' os1 o2 o2' os2) : WhStep w w'' p s d o o' os o2 o2' os2 :=
  ⟨h.h1.trans k.h1 h.up.size, h.h2.trans k.h2 h.up.size, h.h3.trans k.h3 h.up.size, h.up.trans k.up fun i hi hh => allS_heir h.h1 h.h2 h.h3 i hi hh⟩
theorem WhStep.below {w w' : World} {p s : Nat} {d : Dl} {o o' os : Option Nat} (h : Below w.heap.size w w') : WhStep w w' p s d o o' os o o' os := ⟨Heir.refl _ _, Heir.refl _ _, Heir.refl _ _, Upd.of_new h⟩
/-- Things behind a step lie apart. -/
theorem Apart3.heir {w : World} {p s : Nat} {d : Dl} {o o' os o1 o1' os1 : Option Nat} (h : Apart3 p o o' d s os) (h1 : Heir w o o1) (h2 : Heir w o' o1') (h3 : Heir w os os1) (hp : p < w.heap.size) (hd : ∀ k, d.S k → k < w.heap.size) (hs : s < w.heap.size) (hx : ∀ k, (o1 = some k ∨ o1' = some k) → os1 = some k → False) : Apart3 p o1 o1' d s os1 := by
  refine ⟨fun k hk hd' => ?_, fun k hk hss => ?_, fun k hk hss => ?_⟩
  · have hlt := hd k hd'
    rcases hk with e | e | e
    · exact h.wd k (.inl e) hd'
    · rcases h1 k e with e1 | e1
      · exact h.wd k (.inr (.inl e1)) hd'
      · omega
    · rcases h2 k e with e1 | e1
      · exact h.wd k (.inr (.inr e1)) hd'
      · omega
  · rcases hss with e | e
    · subst e
      rcases hk with e | e | e
      · exact h.ws k (.inl e) (.inl rfl)
      · rcases h1 k e with e1 | e1
        · exact h.ws k (.inr (.inl e1)) (.inl rfl)
        · omega
      · rcases h2 k e with e1 | e1
        · exact h.ws k (.inr (.inr e1)) (.inl rfl)
        · omega
    · rcases hk with e1 | e1 | e1
      · subst e1
        rcases h3 k e with e2 | e2
        · exact h.ws k (.inl rfl) (.inr e2)
        · omega
      · exact hx k (.inl e1) e
      · exact hx k (.inr e1) e
  · rcases hss with e | e
    · exact h.ds k hk (.inl e)
    · have hlt := hd k hk
      rcases h3 k e with e1 | e1
      · exact h.ds k hk (.inr e1)
      · omega
theorem wt_sp_ne {w : World} {p g s n : Nat} {o o' os : Option Nat} {W : Wt} {F : Int → Bool} (h : WtM w p g s o o' W) (hs : SpF w s os n F) : ∀ k, (o = some k ∨ o' = some k) → os = some k → False := by
  obtain ⟨v, v', rfl, rfl, h1, h2, h3⟩ := h.ex
  obtain ⟨hl, hsp, _⟩ := hs
  obtain ⟨v3, rfl, _, h4⟩ := hsp.ex
  intro k hk hk3
  rcases h4.2 with ⟨rfl, _⟩ | ⟨b, cap, cur, rfl, _, hb, _⟩
  · cases hk3
  cases hk3
  rcases hk with hk | hk
  · rcases h2.2 with ⟨rfl, _⟩ | ⟨b2, cap2, cur2, rfl, _, hb2, _⟩
    · cases hk
    cases hk
    rw [hb] at hb2
    cases hb2
  · rcases h3.2 with ⟨rfl, _⟩ | ⟨b2, cap2, cur2, rfl, _, hb2, _⟩
    · cases hk
    cases hk
    rw [hb] at hb2
    cases hb2
/-- Behind a step the things are there as they are told. -/
theorem Wh.next {w w' : World} {p s n : Nat} {d : Dl} {o o' os o1 o1' os1 : Option Nat} {F F1 : Int → Bool} {W W1 : Wt} {D D1 : Dv} (h : Wh w p s d o o' os n F W D) (st : WhStep w w' p s d o o' os o1 o1' os1) (h1 : WtM w' p d.g s o1 o1' W1) (h2 : DvM w' d D1) (h3 : SpF w' s os1 n F1) : Wh w' p s d o1 o1' os1 n F1 W1 D1 :=
  ⟨h1, h2, h3, h.ap.heir st.h1 st.h2 st.h3 (h.wt.lt p (.inl rfl)) h.dv.lt h.sp.lt.1 (wt_sp_ne h1 h3)⟩
theorem Wh.below {w w' : World} {p s n : Nat} {d : Dl} {o o' os : Option Nat} {F : Int → Bool} {W : Wt} {D : Dv} (h : Wh w p s d o o' os n F W D) (hb : Below w.heap.size w w') : Wh w' p s d o o' os n F W D := ⟨h.wt.below hb, h.dv.below hb, h.sp.below hb, h.ap⟩
end Go.Proofs.Ytkhejipcclpknaa
