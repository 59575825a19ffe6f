/- A writer that breaks gives its blocks back. No statement is proved here. -/
import Derived.Test.YtkhejipcclpknaaSJ
import Derived.Test.YtkhejipcclpknaaSL
set_option linter.unusedVariables false
set_option linter.unusedSimpArgs false
namespace Go.Proofs.Ytkhejipcclpknaa
open Go.RowKit

def freeAll (n : Nat) (F : Int → Bool) (l : List Nat) : Int → Bool := l.foldl (fun G (b : Nat) => free1F n G (b : Int)) F
theorem freeAll_snoc (n : Nat) (F : Int → Bool) (l : List Nat) (b : Nat) : freeAll n F (l ++ [b]) = free1F n (freeAll n F l) (b : Int) := by
  unfold freeAll
  rw [List.foldl_append]
  rfl
/-- The blocks of a space. -/
def sS (p : Nat) (o : Option Nat) (k : Nat) : Prop := k = p ∨ o = some k
def Wt.spoil (W : Wt) (e : Int) : Wt := { W with fault := e, blocks := [], buf := [], size := 0 }
def SpoilPost (w : World) (p g s : Nat) (o o' os : Option Nat) (n : Nat) (F : Int → Bool) (W : Wt) (c : Int) (e : Ending) (w' : World) : Prop :=
  e = .returned (.int .i64 c) ∧ WtM w' p g s none none (W.spoil c) ∧ ∃ os', SpF w' s os' n (freeAll n F W.blocks) ∧ (∀ k, os' = some k → os = some k ∨ w.heap.size ≤ k) ∧ Upd (fun k => k = p ∨ sS s os k) w w'
set_option maxHeartbeats 4000000 in
set_option maxRecDepth 100000 in
theorem spoil_any {w : World} {p g s : Nat} {o o' os : Option Nat} {n : Nat} {F : Int → Bool} {W : Wt} (h : WtM w p g s o o' W) (hs : SpF w s os n F) (hd : ∀ k, wS p o o' k → ¬ sS s os k) (hlen : W.blocks.length ≤ 1000000) (c : Int) :
    Calls Try.prog 35 #[.pointer (some ⟨p, 0, none⟩), .int .i64 c] w (SpoilPost w p g s o o' os n F W c) := by
  obtain ⟨v, v', rfl, rfl, h1, h2, h3⟩ := h.ex
  obtain ⟨a, cap, hv', hcs⟩ : ∃ a cap, v' = .slice a W.blocks.length cap ∧ (W.blocks ≠ [] → ∃ b, a = some ⟨b, 0, none⟩ ∧ b < w.heap.size ∧ v'.ownBlock = some b ∧ ∀ i (hi : i < W.blocks.length), w.cell? ⟨b, i, none⟩ = some (.int .i64 (W.blocks[i] : Nat))) := by
    rcases h3.2 with ⟨hv, h0⟩ | ⟨gg, cap, cur, hv, _, hg, _⟩
    · have hz := List.eq_nil_of_length_eq_zero h0
      exact ⟨none, 0, by rw [hv, h0], fun hh => absurd hz hh⟩
    · refine ⟨_, _, hv, fun _ => ⟨gg, rfl, blk_lt hg, by rw [hv]; rfl, fun i hi => ?_⟩⟩
      have := h3.cells (g := gg) (by rw [hv]; rfl) i (.int .i64 (W.blocks[i] : Nat)) (by simp [cellsN, List.getElem?_eq_getElem hi])
      rw [Addr.add_lit, Nat.zero_add] at this
      exact this
  have c4 : w.cell? ⟨p, 4, none⟩ = some (.slice a W.blocks.length cap) := (blk_cell h1 4).trans (by rw [← hv']; rfl)
  have HC := hid hcs
  have HD := hid hd
  have H1 := hid h1
  have HS0 := hid hs
  have hps := hd p (.inl rfl)
  have HPS := hid hps
  obtain ⟨len, hl⟩ : ∃ len, len = W.blocks.length := ⟨_, rfl⟩
  rw [← hl] at c4 hlen
  have HL := hid hl
  clear h h1 h2 h3 hv' hcs hd hs hps hl
  go_enter Try.func35, Try.ntmps35
  go_wp2_with fail
  clear c4
  go_loopg [12] len (fun gh s12 wr => ∃ (i : Nat) (osi : Option Nat), i ≤ len ∧ gh = len - i ∧ s12 = .int .i64 i ∧ Hid (SpF wr s osi n (freeAll n F (W.blocks.take i))) ∧ Hid (∀ k, osi = some k → os = some k ∨ w.heap.size ≤ k) ∧ Hid (Upd (sS s os) w wr))
  case atStart => exact ⟨0, os, Nat.zero_le _, by omega, rfl, hid HS0.out, hid fun k hk => .inl hk, hid (Upd.refl _ _)⟩
  case round =>
    obtain ⟨i, osi, hi, rfl, rfl, HS, HN, HU⟩ := hrel
    have hpl := blk_lt H1.out
    have HB := hid ((HU.out.block p hpl HPS.out).trans H1.out)
    by_cases hil : i < len
    · have hil' : i < W.blocks.length := by have := HL.out; omega
      have hne : W.blocks ≠ [] := by
        intro h
        rw [h] at hil'
        simp at hil'
      obtain ⟨b, rfl, hbl, hob, hc⟩ := HC.out hne
      have hbs := HD.out b (.inr (.inr hob))
      have cb : wr.cell? ⟨b, i, none⟩ = some (.int .i64 (W.blocks[i] : Nat)) := (HU.out.cell (p := ⟨b, i, none⟩) hbl hbs).trans (hc i hil')
      have hilI : (i : Int) < (len : Int) := by omega
      have hi63 : IntKind.i64.wrap ((i : Int) + 1) = (i : Int) + 1 := wrap_id (by omega) (by omega)
      have c1 : wr.cell? ⟨p, 1, none⟩ = some (.pointer (some ⟨s, 0, none⟩)) := (blk_cell HB.out 1).trans rfl
      have HT := hid (show W.blocks.take (i + 1) = W.blocks.take i ++ [W.blocks[i]] from List.take_succ_eq_append_getElem hil')
      obtain ⟨x, hx⟩ : ∃ x, x = W.blocks[i] := ⟨_, rfl⟩
      rw [← hx] at cb HT
      have HF := hid (free1_any HS.out (x : Int))
      clear hc hob hbs hne hx hbl
      go_wp2_with (go_at_call 39; refine HF.out.mono ?_; rintro e w3 ⟨r, os3, rfl, h3, hst, hr⟩; clear hr; have H3 := hid h3; have HST := hid hst; clear h3 hst)
      have HS4 : Hid (SpF w3 s os3 n (freeAll n F (W.blocks.take (i + 1)))) := hid (by rw [HT.out, freeAll_snoc]; exact H3.out)
      have HN4 : Hid (∀ k, os3 = some k → os = some k ∨ w.heap.size ≤ k) := hid fun k hk => by
        rcases HST.out.new k hk with h | h
        · exact HN.out k h
        · exact .inr (Nat.le_trans HU.out.size h)
      have HU4 : Hid (Upd (sS s os) w w3) := hid (HU.out.trans HST.out.upd fun k hkl hk => by
        rcases hk with rfl | hk
        · exact .inl rfl
        · rcases HN.out k hk with h | h
          · exact .inr h
          · omega)
      go_roundg (len - (i + 1))
      case measure => omega
      case rel => exact ⟨i + 1, os3, by omega, rfl, by go_num, HS4, HN4, HU4⟩
    · have hie : i = len := by omega
      subst hie
      have HSE : Hid (SpF wr s osi n (freeAll n F W.blocks)) := hid (by have := HS.out; rw [HL.out, List.take_length] at this; exact this)
      have HX := hid (HN.out)
      have f6 := blk_free HB.out 6
      have f4 := blk_free HB.out 4
      have f3 := blk_free HB.out 3
      have f5 := blk_free HB.out 5
      have k6 : wr.cell? ⟨p, 6, none⟩ = some (.int .i64 W.fault) := (blk_cell HB.out 6).trans rfl
      have k4 : wr.cell? ⟨p, 4, none⟩ = some v' := (blk_cell HB.out 4).trans rfl
      have k3 : wr.cell? ⟨p, 3, none⟩ = some v := (blk_cell HB.out 3).trans rfl
      have k5 : wr.cell? ⟨p, 5, none⟩ = some (.int .i64 W.size) := (blk_cell HB.out 5).trans rfl
      have e1 := heap_setCell_same wr p 6 _ _ (.int .i64 c) HB.out
      have e2 := heap_setCell_same _ p 4 _ _ (.slice none 0 0) e1
      have e3 := heap_setCell_same _ p 3 _ _ (.slice none 0 0) e2
      have e4 := heap_setCell_same _ p 5 _ _ (.int .i64 0) e3
      have HE := hid e4
      have U0 : Hid (Upd (fun k => k = p ∨ sS s os k) w wr) := hid ⟨HU.out.os, HU.out.tape, HU.out.output, HU.out.size, fun k hk hn => HU.out.block k hk fun hh => hn (.inr hh)⟩
      have U4 := hid ((((U0.out.setCell (p := ⟨p, 6, none⟩) (fun _ => .inl rfl) (.int .i64 c)).setCell (p := ⟨p, 4, none⟩) (fun _ => .inl rfl) (.slice none 0 0)).setCell (p := ⟨p, 3, none⟩) (fun _ => .inl rfl) (.slice none 0 0)).setCell (p := ⟨p, 5, none⟩) (fun _ => .inl rfl) (.int .i64 0))
      have UP := hid (((((Upd.refl (fun k => k = p) wr).setCell (p := ⟨p, 6, none⟩) (fun _ => rfl) (.int .i64 c)).setCell (p := ⟨p, 4, none⟩) (fun _ => rfl) (.slice none 0 0)).setCell (p := ⟨p, 3, none⟩) (fun _ => rfl) (.slice none 0 0)).setCell (p := ⟨p, 5, none⟩) (fun _ => rfl) (.int .i64 0))
      clear e1 e2 e3 e4
      go_wp2_with fail
      go_ret
      refine ⟨rfl, ⟨⟨.slice none 0 0, .slice none 0 0, rfl, rfl, HE.out, World.ownsRow_nil _ _ _ _, World.ownsRow_nil _ _ _ _⟩, by simp, by simp, by simp⟩, osi, HSE.out.upd UP.out ?_ ?_, HX.out, U4.out⟩
      · intro hh
        exact HPS.out (.inl hh.symm)
      · intro k hk hh
        subst hh
        rcases HX.out k hk with h9 | h9
        · exact HPS.out (.inr h9)
        · omega
end Go.Proofs.Ytkhejipcclpknaa
