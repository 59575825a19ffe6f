/- The space's Alloc. No statement is proved here. -/
import Derived.Test.YtkhejipcclpknaaExtB
import Derived.Test.YtkhejipcclpknaaExtC
set_option linter.unusedVariables false
set_option linter.unusedSimpArgs false
namespace Go.Proofs.Ytkhejipcclpknaa
open Go.RowKit

def pairV (f c : Int) : Value := .agg #[.int .i64 f, .int .i64 c]

/-- What Alloc does. -/
def AllocPost (w : World) (p : Nat) (o : Option Nat) (n : Int) (hs : List (Int × Int)) (c : Int) (e : Ending) (w' : World) : Prop :=
  (∃ A h B, hs = A ++ h :: B ∧ (∀ a ∈ A, a.2 < c) ∧ c ≤ h.2 ∧ SpPost w p o n (A ++ restF h (h.1, c) ++ B) (.tuple #[pairV h.1 c, .int .i64 0]) e w') ∨
  ((∀ a ∈ hs, a.2 < c) ∧ e = .returned (.tuple #[pairV 0 0, .int .i64 42]) ∧ Below w.heap.size w w')

set_option maxHeartbeats 1000000 in
theorem alloc_bad (p : Nat) (c : Int) (w : World) (hc : c < 1) :
    Calls Try.prog 34 #[.pointer (some ⟨p, 0, none⟩), .int .i64 c] w fun e w' => e = .returned (.tuple #[pairV 0 0, .int .i64 41]) ∧ Below w.heap.size w w' := by
  go_enter Try.func34, Try.ntmps34
  go_wp2
  exact bodyPost_ret (v := .tuple #[.agg #[.int .i64 0, .int .i64 0], .int .i64 41]) (by simp [results, Try.results34, go_sem]) rfl ⟨rfl, (Below.refl _ _).alloc (Nat.le_refl _) _⟩

set_option maxHeartbeats 1000000 in
set_option maxRecDepth 100000 in
theorem alloc_good (p : Nat) (o : Option Nat) (n c : Int) (hs : List (Int × Int)) (w : World) (h : Sp w p o n hs) (hc : 1 ≤ c) (hc2 : c ≤ 9223372036854775807) :
    Calls Try.prog 34 #[.pointer (some ⟨p, 0, none⟩), .int .i64 c] w (AllocPost w p o n hs c) := by
  obtain ⟨a, cap, c0, c1, f1, hp, ho, hob, own, hel, hcap, hcm⟩ := h.open
  have hn := h.hn
  have hn1 := h.n1
  have hok := h.ok
  have hc' : ¬ c < 1 := by omega
  have Ho := hid ho
  clear ho hob own
  go_enter Try.func34, Try.ntmps34
  go_wp2
  go_loopw [16] (fun i wr => ∃ k : Nat, k ≤ hs.length ∧ i = .int .i64 k ∧ Below w.heap.size w wr ∧ Hid (wr.heap[w.heap.size]? = some (.cells #[.int .i64 0, .int .i64 0] 83 (0, 0))) ∧ Hid (∀ x ∈ hs.take k, x.2 < c)) (fun i _ => hs.length - (intOf i).toNat)
  case atStart => exact ⟨0, Nat.zero_le _, rfl, (Below.refl _ _).alloc (Nat.le_refl _) _, hid (heap_alloc_new w _), hid (by simp)⟩
  case round =>
    obtain ⟨k, hk, rfl, hbel, hrow, H1⟩ := hrel
    have hsz : w.heap.size < wr.heap.size := blk_lt hrow.out
    by_cases hlt : k < hs.length
    · obtain ⟨g, rfl, hog, e0, e1⟩ := hel k hlt
      have e0' := (hbel.cell (p := ⟨g, k * 2, none⟩) (Ho.out g hog)).trans e0
      have e1' := (hbel.cell (p := ⟨g, k * 2 + 1, none⟩) (Ho.out g hog)).trans e1
      clear e0 e1
      have hget : hs[k] ∈ hs := List.getElem_mem hlt
      have hm := hok.mem hs[k] hget
      by_cases hfit : c ≤ (hs[k]).2
      · have hdec : hs = hs.take k ++ hs[k] :: hs.drop (k + 1) := by rw [← List.drop_eq_getElem_cons hlt, List.take_append_drop]
        have hspw : Sp (wr.alloc (.cells #[.int .i64 (hs[k]).1, .int .i64 (hs[k]).2] 83)) p o n hs := (h.below hbel).below ((Below.refl _ _).alloc (Nat.le_refl _) _)
        have hcut := cut_any p o n (hs.take k) (hs.drop (k + 1)) hs[k] ((hs[k]).1, c) (wr.alloc (.cells #[.int .i64 (hs[k]).1, .int .i64 (hs[k]).2] 83)) (by rw [← hdec]; exact hspw) (Int.le_refl _) hc (by simp only; omega)
        rw [List.length_take, Nat.min_eq_left hk] at hcut
        have hplt := h.lt.1
        have hpo := h.lt.2
        have Hc := hid hcut
        have Hd := hid hdec
        have Hx := hid hpo
        clear hcut hdec hspw hpo hget hel
        go_wp2_with fail
        refine Hc.out.mono ?_
        rintro e w' ⟨rfl, o', hsp, hst⟩
        have hbox : w'.heap[wr.heap.size]? = some (.cells #[.int .i64 (hs[k]).1, .int .i64 (hs[k]).2] 83 (0, 0)) :=
          (hst.upd.block wr.heap.size (by simp) (by
            rintro (hh | hh)
            · omega
            · have := Hx.out _ hh; omega)).trans (heap_alloc_new wr _)
        have hres : w'.heap[w.heap.size]? = some (.cells #[.int .i64 0, .int .i64 0] 83 (0, 0)) :=
          (hst.upd.block w.heap.size (by simp; omega) (by
            rintro (hh | hh)
            · omega
            · have := Hx.out _ hh; omega)).trans ((Below.heap_alloc wr _ _ hsz).trans hrow.out)
        have b0 := blk_cell hbox 0
        have r0 := blk_cell hres 0
        have r1 := blk_cell hres 1
        have fr0 := blk_free hres 0
        have fr1 := blk_free hres 1
        simp at b0 r0 r1
        have Hsp := hid hsp
        have Hst := hid hst
        have Hbel := hid hbel
        clear hsp hst hbox hres hbel
        go_wp2_with fail
        have U1 : Upd (fun j => j = p ∨ o = some j) w w' := ((Upd.of_new Hbel.out).alloc _).trans Hst.out.upd (fun _ _ h => h)
        have U2 := (U1.setCell (p := ⟨w.heap.size, 0, none⟩) (fun hh => absurd hh (Nat.lt_irrefl _)) (.int .i64 (hs[k]).1)).setCell (p := ⟨w.heap.size, 1, none⟩) (fun hh => absurd hh (Nat.lt_irrefl _)) (.int .i64 c)
        have U3 := (((Upd.refl (fun j => j = w.heap.size) w').setCell (p := ⟨w.heap.size, 0, none⟩) (fun _ => rfl) (.int .i64 (hs[k]).1)).setCell (p := ⟨w.heap.size, 1, none⟩) (fun _ => rfl) (.int .i64 c))
        refine bodyPost_ret (v := .tuple #[.agg #[.int .i64 (hs[k]).1, .int .i64 c], .int .i64 0]) (by simp [results, Try.results34, go_sem, r0, r1]) rfl (.inl ⟨hs.take k, hs[k], hs.drop (k + 1), Hd.out, H1.out, hfit, rfl, o', ?_, U2, ?_⟩)
        · refine Hsp.out.upd U3 (by omega) fun j hj hh => ?_
          rcases Hst.out.new j hj with h1 | h1
          · have := Hx.out j h1; omega
          · simp at h1; omega
        · intro j hj
          rcases Hst.out.new j hj with h1 | h1
          · exact .inl h1
          · right; simp at h1; omega
      · have H1' : Hid (∀ x ∈ hs.take (k + 1), x.2 < c) := hid (by
          intro x hx
          rw [take_snoc2 hs k hlt, List.mem_append] at hx
          rcases hx with hx | hx
          · exact H1.out x hx
          · simp at hx; subst hx; omega)
        go_wp2_with fail
        exact ⟨⟨k + 1, by omega, by go_num, hbel.alloc hbel.size _, hid ((Below.heap_alloc wr _ _ hsz).trans hrow.out), H1'⟩, by simp [intOf]; omega⟩
    · have r0 := blk_cell hrow.out 0
      have r1 := blk_cell hrow.out 1
      have fr0 := blk_free hrow.out 0
      have fr1 := blk_free hrow.out 1
      simp at r0 r1
      go_wp2_with fail
      refine bodyPost_ret (v := .tuple #[.agg #[.int .i64 0, .int .i64 0], .int .i64 42]) (by simp [results, Try.results34, go_sem, r0, r1]) rfl (.inr ⟨?_, rfl, (hbel.setCell (Nat.le_refl _) _).setCell (Nat.le_refl _) _⟩)
      have := H1.out
      rwa [List.take_of_length_le (by omega)] at this
end Go.Proofs.Ytkhejipcclpknaa
