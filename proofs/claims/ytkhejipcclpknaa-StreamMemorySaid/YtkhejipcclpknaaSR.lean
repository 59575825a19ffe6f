/- A reader of a file that is right. No statement is proved here. -/
import Derived.Test.YtkhejipcclpknaaSQ
set_option linter.unusedVariables false
set_option linter.unusedSimpArgs false
namespace Go.Proofs.Ytkhejipcclpknaa
open Go.RowKit

theorem infoI : (Try.prog.info? 3).map (fun i => (i.zero, i.size, i.bytes)) = some (some (.int .i64 0), 1, 8) := by kernel_rfl
theorem cellsN_get (l : List Nat) (i : Nat) (hi : i < l.length) : (cellsN l)[i]? = some (.int .i64 (l[i] : Nat)) := by simp [cellsN, hi]
/-- append of a row of ints onto an empty slice that is not nil. -/
theorem app_ints {w : World} {q : Nat} (hq : w.heap[q]? = some (.cells #[] 3 (0, 0))) (ty : TypeId) {v : Value} {l : List Nat} (hv : w.ownsRow 0 3 1 v l.length (cellsN l)) (hl : l.length ≤ 1000000) :
    ∃ g ic w', (Builtin.append_ #[37, 37] ty #[.slice (some ⟨q, 0, none⟩) 0 0, v]).run Try.prog w = .ok (.slice (some ⟨g, 0, none⟩) l.length ic) w' ∧ w'.ownsRow 0 3 1 (.slice (some ⟨g, 0, none⟩) l.length ic) l.length (cellsN l) ∧ w.grownBy w' (some q) ∧ (g = q ∨ g = w.heap.size) := by
  obtain ⟨ti, hi, hz0, hz1, hz2⟩ := info_parts infoI
  have hown : w.ownsRow 0 3 1 (.slice (some ⟨q, 0, none⟩) 0 0) 0 [] := ⟨rfl, .inr ⟨q, 0, #[], rfl, Nat.zero_le _, hq, Nat.le_refl _, by unfold maxLen; omega, rfl, rfl⟩⟩
  have fin : ∀ (v' : Value) (w' : World), w'.ownsRow 0 3 1 v' l.length (cellsN l) → (v'.ownBlock = some q ∨ v'.ownBlock = some w.heap.size) → ∃ g ic, v' = .slice (some ⟨g, 0, none⟩) l.length ic ∧ (g = q ∨ g = w.heap.size) := by
    intro v' w' ho hb
    rcases ho.2 with ⟨rfl, _⟩ | ⟨g, cap, cur, rfl, _⟩
    · rcases hb with h | h <;> cases h
    · refine ⟨g, cap, rfl, ?_⟩
      rcases hb with h | h
      · cases h
        exact .inl rfl
      · cases h
        exact .inr rfl
  rcases hv.2 with ⟨hvn, h0⟩ | ⟨b, cap, cur, hvs, _⟩
  · have hl0 := List.eq_nil_of_length_eq_zero h0
    subst hl0
    subst hvn
    have hrun := run_append_zero (P := Try.prog) w 37 ty 3 1 Try.underlying37 (by rw [hi]; simp [hz1]) (some ⟨q, 0, none⟩) none 0 0 0 (Nat.le_refl _)
    exact ⟨q, 0, w, hrun, hown, ⟨rfl, rfl, rfl, Nat.le_refl _, fun _ _ _ => rfl⟩, .inl rfl⟩
  · obtain ⟨v', w', h1, h2, h3, h4⟩ := run_append_own3 w 0 37 ty 3 ti (.int .i64 0) 1 8 Try.underlying37 hi hz0 hz1 hz2 rfl _ _ _ hown ⟨b, 0, none⟩ l.length cap (cellsN l) (by rw [cellsN_length, Nat.mul_one]) (fun j u hj => hv.cells (g := b) (by rw [hvs]; rfl) j u hj) (fun u hu => by
      obtain ⟨x, _, rfl⟩ := List.mem_map.1 hu
      rfl) (by unfold maxLen; omega) (by omega) (Nat.zero_le _)
    rw [Nat.zero_add, List.nil_append] at h2
    obtain ⟨g, ic, rfl, hg⟩ := fin v' w' h2 (h4.imp id fun h => h.1)
    rw [← hvs] at h1
    exact ⟨g, ic, w', h1, h2, h3, hg⟩
def OpenPost (w : World) (d : Dl) (D : Dv) (l : List Nat) (sz : Nat) (e : Ending) (w' : World) : Prop := ∃ p oc, e = .returned (.tuple #[.pointer (some ⟨p, 0, none⟩), .int .i64 0]) ∧ RdM w' p d.g (some oc) none ⟨D.unit, some l, sz, 0, -1, [], 0⟩ ∧ w.heap.size ≤ p ∧ w.heap.size ≤ oc ∧ Below w.heap.size w w'
set_option maxHeartbeats 4000000 in
set_option maxRecDepth 100000 in
theorem open_good {w : World} {d : Dl} {D : Dv} (h : DvM w d D) {vb : Value} {l : List Nat} (hv : w.ownsRow 0 3 1 vb l.length (cellsN l)) (sz : Nat) (hsz : sz ≤ 1000000000) (hl : l.length = needN sz D.unit) (hok : ∀ b ∈ l, b < D.scr) (hlen : l.length ≤ 1000000) :
    Calls Try.prog 17 #[.pointer (some ⟨d.g, 0, none⟩), .agg #[vb, .int .i64 (sz : Int)]] w (OpenPost w d D l sz) := by
  have u0 := h.u0
  have H0 := hid h
  have HV := hid hv
  have HOK := hid hok
  obtain ⟨a, cap, rfl⟩ : ∃ a cap, vb = .slice a l.length cap := by
    rcases hv.2 with ⟨hh, h0⟩ | ⟨b, cap, cur, hh, _⟩
    · exact ⟨none, 0, by rw [hh, h0]⟩
    · exact ⟨_, _, hh⟩
  have hal := (Below.refl _ w).alloc (Nat.le_refl _) (.cells #[(.slice a l.length cap), .int .i64 (sz : Int)] 39)
  obtain ⟨w1, hw1⟩ : ∃ w1, w.alloc (.cells #[(.slice a l.length cap), .int .i64 (sz : Int)] 39) = w1 := ⟨_, rfl⟩
  obtain ⟨tb, htb⟩ : ∃ tb, tb = w.heap.size := ⟨_, rfl⟩
  have T1 : Hid (w1.heap[tb]? = some (.cells #[(.slice a l.length cap), .int .i64 (sz : Int)] 39 (0, 0))) := hid (by rw [← hw1, htb]; exact heap_alloc_new w _)
  rw [hw1] at hal
  have HG := hid (geom_any (h.below hal))
  have HB1 := hid hal
  have HW1 := hid hw1
  have HTB := hid htb
  have HLN := hid hl
  clear h hv hok hal hw1 htb hl
  go_enter Try.func17, Try.ntmps17
  go_upto_region 1 with fail
  rw [HW1.out, ← HTB.out]
  go_upto_region 2 with (go_at_call 32; refine HG.out.mono ?_; rintro e w2 ⟨rfl, hb2⟩; have HB2 := hid hb2; clear hb2)
  obtain ⟨w3, hw3⟩ : ∃ w3, w2.alloc (.cells #[.int .i64 D.unit, .int .i64 D.scr] 29) = w3 := ⟨_, rfl⟩
  obtain ⟨gb, hgb⟩ : ∃ gb, gb = w2.heap.size := ⟨_, rfl⟩
  have G3 : Hid (w3.heap[gb]? = some (.cells #[.int .i64 D.unit, .int .i64 D.scr] 29 (0, 0))) := hid (by rw [← hw3, hgb]; exact heap_alloc_new w2 _)
  have B23 : Hid (Below w1.heap.size w1 w3) := hid (by rw [← hw3]; exact HB2.out.alloc HB2.out.size _)
  rw [hw3, ← hgb]
  clear hw3 hgb
  have T3 := hid ((B23.out.block tb (blk_lt T1.out)).trans T1.out)
  have B03 := hid (HB1.out.trans (B23.out.mono HB1.out.size))
  have s0 : w3.cell? ⟨tb, 0, none⟩ = some (.slice a l.length cap) := (blk_cell T3.out 0).trans rfl
  have s1 : w3.cell? ⟨tb, 1, none⟩ = some (.int .i64 (sz : Int)) := (blk_cell T3.out 1).trans rfl
  have g0 : w3.cell? ⟨gb, 0, none⟩ = some (.int .i64 D.unit) := (blk_cell G3.out 0).trans rfl
  have hnd := fun (W : World) => need_any W sz D.unit (by omega) (by omega)
  rw [← HLN.out] at hnd
  have HN := hid hnd
  have hsz0 : ¬ (sz : Int) < 0 := by omega
  clear hnd
  refine wp_region_still_lit (by kernel_rfl) (by kernel_rfl) ?_
  repeat still_step
  still_call (HN.out w3.drew)
  repeat still_step
  refine wpStill_nil ?_
  generalize hw4 : ({ heap := w3.heap, tape := w3.tape, drawn := w3.drawn + 1, os := w3.os, output := w3.output } : World) = w4
  have s0' : w4.cell? ⟨tb, 0, none⟩ = some (.slice a l.length cap) := by rw [← hw4]; exact s0
  have s1' : w4.cell? ⟨tb, 1, none⟩ = some (.int .i64 (sz : Int)) := by rw [← hw4]; exact s1
  have g0' : w4.cell? ⟨gb, 0, none⟩ = some (.int .i64 D.unit) := by rw [← hw4]; exact g0
  have g1' : w4.cell? ⟨gb, 1, none⟩ = some (.int .i64 D.scr) := by rw [← hw4]; exact (blk_cell G3.out 1).trans rfl
  have B04 : Hid (Below w.heap.size w w4) := hid (by rw [← hw4]; exact B03.out.drew)
  clear hw4 s0 s1 g0
  go_wp2_with fail
  go_loopg [28] l.length (fun gh s28 wr => ∃ i : Nat, i ≤ l.length ∧ gh = l.length - i ∧ s28 = .int .i64 i ∧ w4 = wr)
  case atStart => exact ⟨0, Nat.zero_le _, by omega, rfl, rfl⟩
  case round =>
    obtain ⟨i, hi, rfl, rfl, rfl⟩ := hrel
    by_cases hil : i < l.length
    · have hilI : (i : Int) < (l.length : Int) := by omega
      have hi63 : IntKind.i64.wrap ((i : Int) + 1) = (i : Int) + 1 := wrap_id (by omega) (by omega)
      have hx : l[i] < D.scr := HOK.out _ (List.getElem_mem hil)
      obtain ⟨bq, cq, rfl, hcq⟩ : ∃ bq cq, a = some ⟨bq, 0, none⟩ ∧ w4.cell? ⟨bq, i, none⟩ = some (.int .i64 (l[i] : Nat)) ∧ cq = 0 := by
        rcases HV.out.2 with ⟨_, h0⟩ | ⟨b, cc, cur, hh, _, hg, _⟩
        · omega
        · refine ⟨b, 0, by cases hh; rfl, ?_, rfl⟩
          have := HV.out.cells (g := b) (by rw [hh]; rfl) i _ (cellsN_get l i hil)
          rw [Addr.add_lit, Nat.zero_add] at this
          exact (B04.out.cell (p := ⟨b, i, none⟩) (blk_lt hg)).trans this
      have cbq := hcq.1
      clear hcq
      generalize l[i] = x at *
      have hxI : (x : Int) < (D.scr : Int) := by omega
      have hx0 : ¬ (x : Int) < 0 := by omega
      go_wp2_with fail
      go_roundg (l.length - (i + 1))
      case measure => omega
      case rel => exact ⟨i + 1, by omega, rfl, by go_num, rfl⟩
    · have hie : i = l.length := by omega
      clear hi
      subst hie
      obtain ⟨q, hq⟩ : ∃ q, q = w4.heap.size := ⟨_, rfl⟩
      have hal4 := ((Below.refl _ w4).alloc (Nat.le_refl _) (.cells #[] 3)).drew
      obtain ⟨g, ic, w6, hrun, hown, hgr, hgg⟩ := app_ints (w := (w4.alloc (.cells #[] 3)).drew) (q := w4.heap.size) (heap_alloc_new w4 _) 37 (own_same HV.out fun k hk => (B04.out.trans (hal4.mono B04.out.size)).block k (by
        rcases HV.out.2 with ⟨hh, _⟩ | ⟨b, cc, cur, hh, _, hg, _⟩
        · rw [hh] at hk; cases hk
        · rw [hh] at hk; cases hk; exact blk_lt hg)) hlen
      have B46 := hid (hal4.grown hgr hal4.size (fun k e => by cases e; exact Nat.le_refl _))
      have HOW := hid hown
      have HGG : Hid (w4.heap.size ≤ g) := hid (by
        rcases hgg with e | e
        · rw [e]; exact Nat.le_refl _
        · rw [e]; exact hal4.size)
      have tl := World.block_lt_of_cell? w4 _ s0'
      have gl := World.block_lt_of_cell? w4 _ g0'
      have y0 := (B46.out.cell (p := ⟨tb, 0, none⟩) tl).trans s0'
      have y1 := (B46.out.cell (p := ⟨tb, 1, none⟩) tl).trans s1'
      have y2 := (B46.out.cell (p := ⟨gb, 0, none⟩) gl).trans g0'
      clear hal4 hown hgr hgg hq g1'
      go_upto_region 10 with fail
      go_region_held3 (fun W : World => W.cell? ⟨tb, 0, none⟩ = some (.slice a l.length cap) ∧ W.cell? ⟨tb, 1, none⟩ = some (.int .i64 (sz : Int)) ∧ W.cell? ⟨gb, 0, none⟩ = some (.int .i64 D.unit)) (go_keep) (refine step_append_run rfl (.tmp 42) (.tmp 44) 37 37 rfl _ _ rfl rfl hrun ?_)
      all_goals go_wp2_with fail
      all_goals go_ret2
      all_goals have hgl : g < w6.heap.size := (HOW.out.lt g rfl).2
      all_goals have B06 := B04.out.trans (B46.out.mono B04.out.size)
      all_goals exact ⟨w6.heap.size, g, rfl, ⟨⟨.slice (some ⟨g, 0, none⟩) l.length ic, .slice none 0 0, rfl, rfl, heap_alloc_new w6 _, HOW.out.alloc _, World.ownsRow_nil _ _ _ _⟩, by simp; omega, by simp, by simp⟩, B06.size, Nat.le_trans B04.out.size HGG.out, B06.alloc B06.size _⟩
end Go.Proofs.Ytkhejipcclpknaa
