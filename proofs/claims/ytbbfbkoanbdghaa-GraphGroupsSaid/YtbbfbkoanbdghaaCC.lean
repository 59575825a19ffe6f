/- The walk of visit. No statement is proved here. -/
import Derived.Test.YtbbfbkoanbdghaaCB
import Derived.Test.YtbbfbkoanbdghaaCS
import Derived.Deep.LoopGhost
set_option linter.unusedVariables false
set_option linter.unusedSimpArgs false
namespace Go.Proofs.Ytbbfbkoanbdghaa
open Go.RowKit

/-- From one world to a later one: only the walk's own blocks are written, and those that it has then were its own or are new. -/
def Fr (t sb lb ob : Nat) (w : World) (vS vF : Value) (w' : World) (vS' vF' : Value) : Prop := Upd (TB t sb lb ob vS vF) w w' ∧ ∀ k, TB t sb lb ob vS' vF' k → TB t sb lb ob vS vF k ∨ w.heap.size ≤ k
section
variable {t sb lb ob : Nat} {w w1 w2 : World} {vS vF vS1 vF1 vS2 vF2 : Value}
theorem Fr.refl : Fr t sb lb ob w vS vF w vS vF := ⟨Upd.refl _ _, fun k h => .inl h⟩
theorem Fr.trans (h : Fr t sb lb ob w vS vF w1 vS1 vF1) (k : Fr t sb lb ob w1 vS1 vF1 w2 vS2 vF2) : Fr t sb lb ob w vS vF w2 vS2 vF2 :=
  ⟨h.1.trans k.1 (fun i hi ht => (h.2 i ht).resolve_right (by omega)), fun i hi => by
    rcases k.2 i hi with h1 | h1
    · exact h.2 i h1
    · exact .inr (Nat.le_trans h.1.size h1)⟩
theorem Fr.below (h : Fr t sb lb ob w vS vF w1 vS1 vF1) (hb : Below w1.heap.size w1 w2) : Fr t sb lb ob w vS vF w2 vS1 vF1 := h.trans ⟨Upd.of_new hb, fun k hk => .inl hk⟩
theorem Fr.set (h : Fr t sb lb ob w vS vF w1 vS1 vF1) (p : Addr) (u : Value) (hp : TB t sb lb ob vS1 vF1 p.block) : Fr t sb lb ob w vS vF (w1.setCell p u) vS1 vF1 := h.trans ⟨(Upd.refl _ _).setCell (fun _ => hp) u, fun k hk => .inl hk⟩
theorem Fr.drew (h : Fr t sb lb ob w vS vF w1 vS1 vF1) : Fr t sb lb ob w vS vF w1.drew vS1 vF1 := ⟨h.1.drew, h.2⟩
theorem Fr.stk (h : Fr t sb lb ob w vS vF w1 vS1 vF1) {v' : Value} (hg : w1.grownBy w2 vS1.ownBlock) (hv : v'.ownBlock = vS1.ownBlock ∨ v'.ownBlock = some w1.heap.size) : Fr t sb lb ob w vS vF (w2.setCell ⟨t, 4, none⟩ v') v' vF1 :=
  h.trans ⟨((Upd.of_grown hg).mono (fun k _ hk => .inr (.inr (.inr (.inr (.inl hk)))))).setCell (fun _ => .inl rfl) v', fun k hk => by
    rcases hk with hk | hk | hk | hk | hk | hk
    · exact .inl (.inl hk)
    · exact .inl (.inr (.inl hk))
    · exact .inl (.inr (.inr (.inl hk)))
    · exact .inl (.inr (.inr (.inr (.inl hk))))
    · rcases hv with e | e
      · exact .inl (.inr (.inr (.inr (.inr (.inl (e ▸ hk))))))
      · rw [e] at hk; cases hk; exact .inr (Nat.le_refl _)
    · exact .inl (.inr (.inr (.inr (.inr (.inr hk)))))⟩
theorem Fr.fnd (h : Fr t sb lb ob w vS vF w1 vS1 vF1) {v' : Value} (hg : w1.grownBy w2 vF1.ownBlock) (hv : v'.ownBlock = vF1.ownBlock ∨ v'.ownBlock = some w1.heap.size) : Fr t sb lb ob w vS vF (w2.setCell ⟨t, 7, none⟩ v') vS1 v' :=
  h.trans ⟨((Upd.of_grown hg).mono (fun k _ hk => .inr (.inr (.inr (.inr (.inr hk)))))).setCell (fun _ => .inl rfl) v', fun k hk => by
    rcases hk with hk | hk | hk | hk | hk | hk
    · exact .inl (.inl hk)
    · exact .inl (.inr (.inl hk))
    · exact .inl (.inr (.inr (.inl hk)))
    · exact .inl (.inr (.inr (.inr (.inl hk))))
    · exact .inl (.inr (.inr (.inr (.inr (.inl hk)))))
    · rcases hv with e | e
      · exact .inl (.inr (.inr (.inr (.inr (.inr (e ▸ hk))))))
      · rw [e] at hk; cases hk; exact .inr (Nat.le_refl _)⟩
/-- A row beside the walk's own, laid since, is written. -/
theorem Fr.grown (h : Fr t sb lb ob w vS vF w1 vS1 vF1) {row : Option Nat} (hg : w1.grownBy w2 row) (hr : ∀ k, row = some k → w.heap.size ≤ k) : Fr t sb lb ob w vS vF w2 vS1 vF1 :=
  ⟨⟨hg.os.trans h.1.os, hg.tape.trans h.1.tape, hg.output.trans h.1.output, Nat.le_trans h.1.size hg.size, fun k hk hs => (hg.block k (Nat.lt_of_lt_of_le hk h.1.size) (fun e => by have := hr k e.symm; omega)).trans (h.1.block k hk hs)⟩, h.2⟩
end
theorem grownBy_refl (w : World) (row : Option Nat) : w.grownBy w row := ⟨rfl, rfl, rfl, Nat.le_refl _, fun _ _ _ => rfl⟩
theorem own_pop {w : World} {B b n cap y : Nat} {ys : List Nat} (h : OwnN w B (.slice (some ⟨b, 0, none⟩) (n + 1) cap) (ys ++ [y])) (hn : ys.length = n) : OwnN w B (.slice (some ⟨b, 0, none⟩) n cap) ys := by
  rcases h.2 with ⟨h1, _⟩ | ⟨g, cap', cur, h1, hB, hg, hle, hcm, hcs, htk⟩
  · cases h1
  · have e1 : b = g := by simp at h1; exact h1.1
    have e2 : cap = cap' := by
      simp only [Value.slice.injEq] at h1
      exact h1.2.2
    subst e1 e2
    refine ⟨by rw [cellsN_length]; omega, .inr ⟨b, cap, cur, by rw [hn], hB, hg, by simp at hle; omega, hcm, hcs, ?_⟩⟩
    have h2 : (cur.toList.take ((ys ++ [y]).length * 1)).take (ys.length * 1) = (cellsN (ys ++ [y])).take (ys.length * 1) := by rw [htk]
    rw [List.take_take, Nat.min_eq_left (by simp)] at h2
    rw [h2]
    unfold cellsN
    rw [List.map_append, Nat.mul_one]
    exact List.take_left' (by simp)
theorem own_last {w : World} {B b n cap y : Nat} {ys : List Nat} (h : OwnN w B (.slice (some ⟨b, 0, none⟩) (n + 1) cap) (ys ++ [y])) (hn : ys.length = n) : w.cell? ⟨b, n, none⟩ = some (.int .i64 (y : Int)) := by
  have := h.cells (g := b) rfl n (.int .i64 (y : Int)) (by unfold cellsN; rw [List.map_append, List.getElem?_append_right (by simp; omega)]; simp [hn])
  rw [Addr.add_lit, Nat.zero_add] at this
  exact this
theorem own_slice {w : World} {B : Nat} {e : TypeId} {sz n : Nat} {v : Value} {xs : List Value} (h : w.ownsRow B e sz v n xs) : ∃ a n c, v = .slice a n c := by
  rcases h.2 with ⟨rfl, _⟩ | ⟨g, cap, cur, rfl, _⟩
  · exact ⟨_, _, _, rfl⟩
  · exact ⟨_, _, _, rfl⟩
def tvs (s : TS) (vS vF : Value) (vals : List Value) : TV := ⟨s.cnt, s.seen, s.low, fun y => decide (y ∈ s.stk), s.stk, s.fnd, vS, vF, vals⟩
def VisitPost (B : Nat) (w : World) (t g sb lb ob : Nat) (mask : Int) (N : Nat) (R : Nat → Nat → Prop) (s : TS) (gray : List Nat) (x : Nat) (vS vF : Value) (e : Ending) (w' : World) : Prop :=
  e = .returned (.tuple #[]) ∧ ∃ s' vS' vF' vals', VPost R N s gray x s' ∧ TM B w' t g sb lb ob mask N (tvs s' vS' vF' vals') ∧ Fr t sb lb ob w vS vF w' vS' vF'
theorem edge_lt {es : List E} {N : Nat} {mask : Int} (hok : ∀ e ∈ es, okE N e) {a b : Nat} (h : Edge es mask a b) : a < N ∧ b < N := by
  obtain ⟨e, he, h1, h2, _⟩ := h
  obtain ⟨k1, k2, k3, k4, _⟩ := hok e he
  omega
theorem sorted_lt {l : List Nat} (h : l.Pairwise (· ≤ ·)) (hn : l.Nodup) : l.Pairwise (· < ·) :=
  (h.and hn).imp fun ⟨a, b⟩ => by omega
theorem flatten_le : ∀ gs : List (List Nat), (∀ g ∈ gs, g ≠ []) → gs.length ≤ gs.flatten.length
  | [], _ => Nat.zero_le _
  | g :: r, h => by
    have := flatten_le r fun g hg => h g (List.mem_cons_of_mem _ hg)
    have h2 := List.length_pos_iff.2 (h g List.mem_cons_self)
    rw [List.flatten_cons, List.length_append, List.length_cons]
    omega
theorem Inv.fnd_le {R : Nat → Nat → Prop} {N : Nat} {s : TS} {gray : List Nat} (h : Inv R N s gray) : s.fnd.length ≤ N := by
  have h1 := flatten_le s.fnd fun g hg => (h.scc g hg).1
  have h2 := nodup_le N s.fnd.flatten h.dis fun y hy => by
    obtain ⟨g, hg, hy⟩ := List.mem_flatten.1 hy
    exact (h.scc g hg).2.2.1 y hy
  omega
/-- What of a list of edges has been gone over. -/
def PE (L : List E) (mask : Int) (p : Nat) (y : Nat) : Prop := ∃ j, j < p ∧ ∃ e, L[j]? = some e ∧ e.to = (y : Int) ∧ inM e.lab mask = true
theorem PE.skip {L : List E} {mask : Int} {p : Nat} {e : E} (hg : L[p]? = some e) (hi : ¬ inM e.lab mask = true) {y : Nat} (h : PE L mask (p + 1) y) : PE L mask p y := by
  obtain ⟨j, hj, e', h1, h2, h3⟩ := h
  by_cases hjp : j = p
  · subst hjp
    rw [hg] at h1
    cases h1
    exact absurd h3 hi
  · exact ⟨j, by omega, e', h1, h2, h3⟩
theorem PE.step {L : List E} {mask : Int} {p u : Nat} {e : E} (hg : L[p]? = some e) (ht : e.to = (u : Int)) {y : Nat} (h : PE L mask (p + 1) y) : PE L mask p y ∨ y = u := by
  obtain ⟨j, hj, e', h1, h2, h3⟩ := h
  by_cases hjp : j = p
  · subst hjp
    rw [hg] at h1
    cases h1
    exact .inr (by omega)
  · exact .inl ⟨j, by omega, e', h1, h2, h3⟩
set_option maxHeartbeats 4000000 in
set_option maxRecDepth 100000 in
theorem visit_any {B0 : Nat} {W0 : World} {g N : Nat} {es : List E} {mb gb bb : Nat} {oc bc : Array Value} {vs : Nat → Value} (H0 : Gr B0 W0 g N es mb gb bb oc bc vs) (mask : Int) (t sb lb ob : Nat) :
    ∀ (f : Nat) (s : TS) (gray : List Nat) (x : Nat) (vS vF : Value) (vals : List Value) (w : World), Inv (Edge es mask) N s gray → x < N → s.seen x = 0 → (∀ z ∈ gray, RT (Edge es mask) z x) → cz s.seen N ≤ f →
      TM W0.heap.size w t g sb lb ob mask N (tvs s vS vF vals) → Below W0.heap.size W0 w →
      Calls Try.prog 35 #[.pointer (some ⟨t, 0, none⟩), .int .i64 (x : Int)] w (VisitPost W0.heap.size w t g sb lb ob mask N (Edge es mask) s gray x vS vF) := by
  intro f
  induction f with
  | zero => intro s gray x vS vF vals w hI hx h0 hg hf; have := cz_pos s.seen h0 N hx; omega
  | succ f IH =>
  intro s gray x vS vF vals w hI hx h0 hg hf hT hB
  have HIH := hid IH
  have hN0 : N ≤ 1024 := H0.nn
  have HM0 := hid (mid_start hI hx h0 hg)
  have hcn : s.cnt + 1 ≤ 1024 := by have h1 := hI.num; have h2 := cz_pos s.seen h0 N hx; have h3 := H0.nn; omega
  obtain ⟨K, hK⟩ : ∃ K, K = s.cnt + 1 := ⟨_, rfl⟩
  have hwrap : IntKind.i64.wrap ((s.cnt : Int) + 1) = (K : Int) := by rw [IntKind.wrap_i64]; omega
  have HI := hid hI
  have HF := hid hf
  have HG0 := hid H0
  have c6 : w.cell? ⟨t, 6, none⟩ = some (.int .i64 (s.cnt : Int)) := hT.c6
  have f6 : w.frozen? ⟨t, 6, none⟩ = false := blk_free hT.ht 6
  have HT1 := hid (hT.setCnt K)
  have HR1 : Hid (Fr t sb lb ob w vS vF _ vS vF) := hid (Fr.refl.set ⟨t, 6, none⟩ (.int .i64 (K : Int)) (.inl rfl))
  have hxN : (x : Int) < (N : Int) := by omega
  have HK := hid hK
  have HH : Hid (∀ k, TB t sb lb ob vS vF k → W0.heap.size ≤ k ∧ k < w.heap.size) := hid fun k hk => hT.tb_lt hk
  have HB := hid hB
  clear IH hI hf hK hT hB hg
  go_enter Try.func35, Try.ntmps35
  go_upto_region 1 with fail
  clear c6 f6 hwrap
  obtain ⟨w1, hw1⟩ : ∃ w1, w.setCell ⟨t, 6, none⟩ (.int .i64 (K : Int)) = w1 := ⟨_, rfl⟩
  rw [hw1] at HT1 HR1 ⊢
  clear hw1
  have c2 : w1.cell? ⟨t, 2, none⟩ = some (.slice (some ⟨sb, 0, none⟩) N N) := HT1.out.c2
  have c3 : w1.cell? ⟨t, 3, none⟩ = some (.slice (some ⟨lb, 0, none⟩) N N) := HT1.out.c3
  have c6 : w1.cell? ⟨t, 6, none⟩ = some (.int .i64 (K : Int)) := HT1.out.c6
  have fs : w1.frozen? ⟨sb, x, none⟩ = false := HT1.out.sn.free x
  have fl : w1.frozen? ⟨lb, x, none⟩ = false := HT1.out.lw.free x
  have cs : w1.cell? ⟨sb, x, none⟩ = some (.int .i64 (s.seen x : Int)) := HT1.out.sn.cell hx
  have cl : w1.cell? ⟨lb, x, none⟩ = some (.int .i64 (s.low x : Int)) := HT1.out.lw.cell hx
  have T2 := HT1.out.setSeen hx K
  have T3 := HT1.out.setLow hx K
  have c2' : (w1.setCell ⟨sb, x, none⟩ (.int .i64 (K : Int))).cell? ⟨t, 2, none⟩ = some (.slice (some ⟨sb, 0, none⟩) N N) := T2.c2
  have c3' : (w1.setCell ⟨sb, x, none⟩ (.int .i64 (K : Int))).cell? ⟨t, 3, none⟩ = some (.slice (some ⟨lb, 0, none⟩) N N) := T2.c3
  have c6' : (w1.setCell ⟨sb, x, none⟩ (.int .i64 (K : Int))).cell? ⟨t, 6, none⟩ = some (.int .i64 (K : Int)) := T2.c6
  have fl' : (w1.setCell ⟨sb, x, none⟩ (.int .i64 (K : Int))).frozen? ⟨lb, x, none⟩ = false := T2.lw.free x
  have c2'' : (w1.setCell ⟨lb, x, none⟩ (.int .i64 (K : Int))).cell? ⟨t, 2, none⟩ = some (.slice (some ⟨sb, 0, none⟩) N N) := T3.c2
  have c3'' : (w1.setCell ⟨lb, x, none⟩ (.int .i64 (K : Int))).cell? ⟨t, 3, none⟩ = some (.slice (some ⟨lb, 0, none⟩) N N) := T3.c3
  have c6'' : (w1.setCell ⟨lb, x, none⟩ (.int .i64 (K : Int))).cell? ⟨t, 6, none⟩ = some (.int .i64 (K : Int)) := T3.c6
  have fs'' : (w1.setCell ⟨lb, x, none⟩ (.int .i64 (K : Int))).frozen? ⟨sb, x, none⟩ = false := T3.sn.free x
  have cl' : (w1.setCell ⟨sb, x, none⟩ (.int .i64 (K : Int))).cell? ⟨lb, x, none⟩ = some (.int .i64 (s.low x : Int)) := T2.lw.cell hx
  have cs'' : (w1.setCell ⟨lb, x, none⟩ (.int .i64 (K : Int))).cell? ⟨sb, x, none⟩ = some (.int .i64 (s.seen x : Int)) := T3.sn.cell hx
  clear T2 T3
  go_region
  clear c2 c3 c6 fs fl cs cl c2' c3' c6' fl' c2'' c3'' c6'' fs'' cl' cs''
  have HT2 := hid ((TM.below ((HT1.out.setSeen hx K).setLow hx K) (Below.refl _ _).drew))
  have HR2 := hid (((HR1.out.set ⟨sb, x, none⟩ (.int .i64 (K : Int)) (.inr (.inl rfl))).set ⟨lb, x, none⟩ (.int .i64 (K : Int)) (.inr (.inr (.inl rfl)))).drew)
  obtain ⟨w2, hw2⟩ : ∃ w2, ((w1.setCell ⟨sb, x, none⟩ (.int .i64 (K : Int))).setCell ⟨lb, x, none⟩ (.int .i64 (K : Int))).drew = w2 := ⟨_, rfl⟩
  rw [hw2] at HT2 HR2 ⊢
  clear hw2 HT1 HR1
  have hBw2 := HR2.out.1.below (B := W0.heap.size) HB.out.size (fun k hk => (HH.out k hk).1)
  have hsk : s.stk.length ≤ N := nodup_le N s.stk HI.out.nodup fun y hy => (HI.out.pos y hy).1
  have hal := (Below.refl _ w2).alloc (Nat.le_refl _) (.cells #[.int .i64 (x : Int)] 3)
  obtain ⟨vX, w4, hrun, hO4, hg4, hv4⟩ := n_append (HT2.out.st.alloc (.cells #[.int .i64 (x : Int)] 3)) (Nat.le_trans (Nat.le_trans HB.out.size hBw2.size) hal.size) x 38 w2.heap.size (heap_alloc_new w2 _) (by show s.stk.reverse.length ≤ 100000; rw [List.length_reverse]; omega)
  obtain ⟨aX, nX, cX, rfl⟩ := own_slice hO4
  have HT4 := hid (((HT2.out.below hal).setStk hg4 (l := x :: s.stk) (by rw [List.reverse_cons]; exact hO4) hv4).setOn hx true)
  have HR4 := hid (((HR2.out.below hal).stk hg4 hv4).set ⟨ob, x, none⟩ (.bool true) (.inr (.inr (.inr (.inl rfl)))))
  have c4 : w2.cell? ⟨t, 4, none⟩ = some vS := HT2.out.c4
  have htl : t < (w2.alloc (.cells #[.int .i64 (x : Int)] 3)).heap.size := Nat.lt_of_lt_of_le HT2.out.lt hal.size
  have htn : ¬ some t = vS.ownBlock := fun e => (HT2.out.aS t e.symm).1 rfl
  have ht4 : w4.heap[t]? = _ := (hg4.block t htl (fun e => htn e)).trans ((hal.block t HT2.out.lt).trans HT2.out.ht)
  have c4' : w4.cell? ⟨t, 4, none⟩ = some vS := (blk_cell ht4 4).trans rfl
  have f4' : w4.frozen? ⟨t, 4, none⟩ = false := blk_free ht4 4
  have HT5 := (HT2.out.below hal).setStk hg4 (l := x :: s.stk) (by rw [List.reverse_cons]; exact hO4) hv4
  have c5 : (w4.setCell ⟨t, 4, none⟩ (.slice aX nX cX)).cell? ⟨t, 5, none⟩ = some (.slice (some ⟨ob, 0, none⟩) N N) := HT5.c5
  have co : (w4.setCell ⟨t, 4, none⟩ (.slice aX nX cX)).cell? ⟨ob, x, none⟩ = some (.bool (decide (x ∈ s.stk))) := HT5.on.cell hx
  have fo : (w4.setCell ⟨t, 4, none⟩ (.slice aX nX cX)).frozen? ⟨ob, x, none⟩ = false := HT5.on.free x
  clear HT5 hO4 hg4 hv4 hal htn ht4 htl
  go_upto_region 4 with (at_builtin; refine wpList_append_run _ rfl (.tmp 39) (.tmp 41) 38 38 rfl _ _ rfl rfl hrun ?_)
  obtain ⟨w6, hw6⟩ : ∃ w6, (w4.setCell ⟨t, 4, none⟩ (.slice aX nX cX)).setCell ⟨ob, x, none⟩ (.bool true) = w6 := ⟨_, rfl⟩
  rw [hw6] at HT4 HR4 ⊢
  clear hw6 c4 c4' f4' c5 co fo hrun HT2 HR2 hBw2
  have hT6 : TM W0.heap.size w6 t g sb lb ob mask N (tvs (push s x) (.slice aX nX cX) vF vals) := by
    have := HT4.out.onExt (on' := fun y => decide (y ∈ x :: s.stk)) fun y _ => by
      show upd (fun y => decide (y ∈ s.stk)) x true y = _
      by_cases e : y = x
      · subst e
        rw [upd_same]
        simp
      · rw [upd_other e]
        simp [e]
    unfold tvs push
    rw [← HK.out]
    exact this
  have HT6 := hid hT6
  have HR6 := HR4
  clear hT6 HT4 HR4
  have hB6 := HR6.out.1.below (B := W0.heap.size) HB.out.size (fun k hk => (HH.out k hk).1)
  have hB06 := HB.out.trans hB6
  obtain ⟨a, c2, hv, hin, _, _⟩ := own_ein (HG0.out.row x (by omega))
  obtain ⟨L, hL⟩ : ∃ L, L = rowE es N x := ⟨_, rfl⟩
  have t0 : w6.cell? ⟨t, 0, none⟩ = some (.pointer (some ⟨g, 0, none⟩)) := HT6.out.c0
  have g2 : w6.cell? ⟨g, 2, none⟩ = some (.slice (some ⟨gb, 0, none⟩) N N) := (hB06.cell (p := ⟨g, 2, none⟩) (blk_lt HG0.out.hg)).trans ((blk_cell HG0.out.hg 2).trans rfl)
  have b2 : w6.cell? ⟨gb, x, none⟩ = some (.slice a L.length c2) := (hB06.cell (p := ⟨gb, x, none⟩) (blk_lt HG0.out.ho)).trans ((blk_cell HG0.out.ho x).trans ((HG0.out.co x hx).trans (by rw [hv, hL])))
  rw [← hL] at hin
  have HIN := hid hin
  have HLr := hid hL
  clear hv hin hL hB6 hB06
  go_wp2_with fail
  clear t0 g2 b2
  have HM6 : Hid (Mid (Edge es mask) N s gray x (PE L mask 0) (push s x)) := hid (HM0.out.weak fun y hy => by obtain ⟨j, hj, _⟩ := hy; omega)
  clear HM0
  go_loopg [62] L.length (fun gh s62 wr => ∃ (p : Nat) (s1 : TS) (vS1 vF1 : Value) (vals1 : List Value), p ≤ L.length ∧ gh = L.length - p ∧ s62 = .int .i64 p ∧ Hid (Mid (Edge es mask) N s gray x (PE L mask p) s1) ∧ Hid (TM W0.heap.size wr t g sb lb ob mask N (tvs s1 vS1 vF1 vals1)) ∧ Hid (Fr t sb lb ob w vS vF wr vS1 vF1))
  case atStart => exact ⟨0, _, _, _, _, Nat.zero_le _, by omega, rfl, HM6, HT6, HR6⟩
  case round =>
    clear HM6 HT6 HR6 hsk
    obtain ⟨p, s1, vS1, vF1, vals1, hp, rfl, rfl, HM, HT, HR⟩ := hrel
    have hBw := HR.out.1.below (B := W0.heap.size) HB.out.size (fun k hk => (HH.out k hk).1)
    have HBr := hid (HB.out.trans hBw)
    clear hBw
    by_cases hpl : p < L.length
    · have hne : L ≠ [] := by
        intro h
        rw [h] at hpl
        simp at hpl
      obtain ⟨be, rfl, hbl, hce⟩ := (HIN.out.below HBr.out) hne
      have hx3 := hce p hpl
      have hmem := out_mem hx (show L[p] ∈ rowE es N x by rw [← HLr.out]; exact List.getElem_mem _)
      have hok := HG0.out.ok _ hmem.1
      have hget : L[p]? = some L[p] := List.getElem?_eq_getElem hpl
      generalize L[p] = e at *
      obtain ⟨ef, et, el⟩ := e
      obtain ⟨k1, k2, k3, k4, k5, k6⟩ := hok
      obtain ⟨hm1, hm2⟩ := hmem
      simp only at k1 k2 k3 k4 k5 k6 hm2
      subst hm2
      obtain ⟨u, rfl⟩ := Int.eq_ofNat_of_zero_le k3
      have huN : u < N := by omega
      have HGT := hid hget
      have HMm := hid hm1
      have x0 : wr.cell? ⟨be, p * 3, none⟩ = some (.int .i64 (x : Int)) := hx3 0 (by omega)
      have x1 : wr.cell? ⟨be, p * 3 + 1, none⟩ = some (.int .i64 (u : Int)) := hx3 1 (by omega)
      have x2 : wr.cell? ⟨be, p * 3 + 2, none⟩ = some (.int .i64 el) := hx3 2 (by omega)
      have hpI : (p : Int) < (L.length : Int) := by omega
      have hp63 : (p : Int) + 1 ≤ 9223372036854775807 := by
        have h1 := rowE_len es N x
        rw [← HLr.out] at h1
        have := HG0.out.len
        omega
      have hal := (Below.refl _ wr).alloc (Nat.le_refl _) (.cells #[.int .i64 (x : Int), .int .i64 (u : Int), .int .i64 el] 29)
      have X4 : Hid ((wr.alloc (.cells #[.int .i64 (x : Int), .int .i64 (u : Int), .int .i64 el] 29)).heap[wr.heap.size]? = some (.cells #[.int .i64 (x : Int), .int .i64 (u : Int), .int .i64 el] 29 (0, 0))) := hid (heap_alloc_new wr _)
      have HT4 := hid (HT.out.below hal)
      have HR4 := hid (HR.out.below hal)
      have hbx : ∀ k, TB t sb lb ob vS1 vF1 k → k ≠ wr.heap.size := fun k hk => by have := (HT.out.tb_lt hk).2; omega
      have HBX := hid hbx
      clear hx3 hce hget hm1 hal HT HR hbx
      go_upto_region 7 with fail
      clear x0 x1 x2
      obtain ⟨w4, hw4⟩ : ∃ w4, wr.alloc (.cells #[.int .i64 (x : Int), .int .i64 (u : Int), .int .i64 el] 29) = w4 := ⟨_, rfl⟩
      obtain ⟨bx, hbx2⟩ : ∃ bx, bx = wr.heap.size := ⟨_, rfl⟩
      rw [hw4] at X4 HT4 HR4 ⊢
      rw [← hbx2] at X4 HBX ⊢
      clear hw4 hbx2
      have x0 : w4.cell? ⟨bx, 0, none⟩ = some (.int .i64 (x : Int)) := (blk_cell X4.out 0).trans rfl
      have x1 : w4.cell? ⟨bx, 1, none⟩ = some (.int .i64 (u : Int)) := (blk_cell X4.out 1).trans rfl
      have x2 : w4.cell? ⟨bx, 2, none⟩ = some (.int .i64 el) := (blk_cell X4.out 2).trans rfl
      have t1 : w4.cell? ⟨t, 1, none⟩ = some (.int .i64 mask) := HT4.out.c1
      have hinn := in_any ⟨(x : Int), (u : Int), el⟩ mask w4.drew k5 k6
      have huI : (u : Int) < (N : Int) := by omega
      cases hin : inM el mask with
      | false =>
        simp only [hin] at hinn
        have HI5 := hid hinn
        clear hinn
        go_region_held3 (fun W : World => W.cell? ⟨bx, 0, none⟩ = some (.int .i64 (x : Int)) ∧ W.cell? ⟨bx, 1, none⟩ = some (.int .i64 (u : Int)) ∧ W.cell? ⟨bx, 2, none⟩ = some (.int .i64 el) ∧ W.cell? ⟨t, 1, none⟩ = some (.int .i64 mask)) (go_keep) (first | (go_at_call 34; refine HI5.out.mono ?_; rintro e w5 ⟨rfl, hla⟩; have z0 : w5.cell? ⟨bx, 0, none⟩ = some (.int .i64 (x : Int)) := (hla.below.cell (p := ⟨bx, 0, none⟩) (blk_lt X4.out)).trans x0; have z1 : w5.cell? ⟨bx, 1, none⟩ = some (.int .i64 (u : Int)) := (hla.below.cell (p := ⟨bx, 1, none⟩) (blk_lt X4.out)).trans x1; have z2 : w5.cell? ⟨bx, 2, none⟩ = some (.int .i64 el) := (hla.below.cell (p := ⟨bx, 2, none⟩) (blk_lt X4.out)).trans x2; have z3 : w5.cell? ⟨t, 1, none⟩ = some (.int .i64 mask) := (hla.below.cell (p := ⟨t, 1, none⟩) HT4.out.lt).trans t1))
        have HT5 := hid ((HT4.out.below (Below.refl _ _).drew).below hla.below)
        have HR5 := hid ((HR4.out.below (Below.refl _ _).drew).below hla.below)
        go_wp2_with fail
        have HM5 := hid (HM.out.weak fun y hy => PE.skip HGT.out (by simpa using hin) hy)
        go_roundg (L.length - (p + 1))
        case measure => omega
        case rel => exact ⟨p + 1, s1, vS1, vF1, vals1, by omega, rfl, by go_num, HM5, HT5, HR5⟩
      | true =>
        simp only [hin] at hinn
        have HI5 := hid hinn
        have hedge : Edge es mask x u := ⟨_, HMm.out, rfl, rfl, hin⟩
        have HED := hid hedge
        clear hinn hedge
        by_cases hz : s1.seen u = 0
        · go_region_held3 (fun W : World => W.cell? ⟨bx, 0, none⟩ = some (.int .i64 (x : Int)) ∧ W.cell? ⟨bx, 1, none⟩ = some (.int .i64 (u : Int)) ∧ W.cell? ⟨bx, 2, none⟩ = some (.int .i64 el) ∧ W.cell? ⟨t, 1, none⟩ = some (.int .i64 mask)) (go_keep) (first | (go_at_call 34; refine HI5.out.mono ?_; rintro e w5 ⟨rfl, hla⟩; have z0 : w5.cell? ⟨bx, 0, none⟩ = some (.int .i64 (x : Int)) := (hla.below.cell (p := ⟨bx, 0, none⟩) (blk_lt X4.out)).trans x0; have z1 : w5.cell? ⟨bx, 1, none⟩ = some (.int .i64 (u : Int)) := (hla.below.cell (p := ⟨bx, 1, none⟩) (blk_lt X4.out)).trans x1; have z2 : w5.cell? ⟨bx, 2, none⟩ = some (.int .i64 el) := (hla.below.cell (p := ⟨bx, 2, none⟩) (blk_lt X4.out)).trans x2; have z3 : w5.cell? ⟨t, 1, none⟩ = some (.int .i64 mask) := (hla.below.cell (p := ⟨t, 1, none⟩) HT4.out.lt).trans t1))
          have HT5 := hid ((HT4.out.below (Below.refl _ _).drew).below hla.below)
          have HR5 := hid ((HR4.out.below (Below.refl _ _).drew).below hla.below)
          have X5 := hid ((hla.below.block bx (blk_lt X4.out)).trans X4.out)
          have y1 : w5.cell? ⟨bx, 1, none⟩ = some (.int .i64 (u : Int)) := (blk_cell X5.out 1).trans rfl
          have t2 : w5.cell? ⟨t, 2, none⟩ = some (.slice (some ⟨sb, 0, none⟩) N N) := HT5.out.c2
          have su : w5.cell? ⟨sb, u, none⟩ = some (.int .i64 (s1.seen u : Int)) := HT5.out.sn.cell huN
          rw [hz] at su
          clear x0 x1 x2 t1 hla HI5
          go_upto_region 8 with fail
          go_still (by kernel_rfl)
          generalize hwd : ({ heap := w5.heap, tape := w5.tape, drawn := w5.drawn + 1, os := w5.os, output := w5.output } : World) = wd
          have hwd' : w5.drew = wd := hwd
          have hbd : Below w5.heap.size w5 wd := by rw [← hwd']; exact (Below.refl _ w5).drew
          have HT6 := hid (HT5.out.below hbd)
          have HR6 := hid (HR5.out.below hbd)
          have X6 := hid ((hbd.block bx (blk_lt X5.out)).trans X5.out)
          have y2 : wd.cell? ⟨bx, 1, none⟩ = some (.int .i64 (u : Int)) := (blk_cell X6.out 1).trans rfl
          have HC := hid (HIH.out s1 (x :: gray) u vS1 vF1 vals1 wd HM.out.inv huN hz (HM.out.greys HI.out HED.out) (by have := HM.out.less; have := HF.out; omega) HT6.out (HB.out.trans (HR6.out.1.below (B := W0.heap.size) HB.out.size (fun k hk => (HH.out k hk).1))))
          clear hwd hwd' hbd HT5 HR5 X5 y1 t2 su
          go_upto_region 10 with (go_at_call 35; refine HC.out.mono ?_; rintro e w8 ⟨rfl, s2, vS2, vF2, vals2, hP, hT8, hF8⟩)
          have hbx8 : w8.heap[bx]? = _ := (hF8.1.block bx (blk_lt X6.out) (fun hh => HBX.out bx hh rfl)).trans X6.out
          have y8 : w8.cell? ⟨bx, 1, none⟩ = some (.int .i64 (u : Int)) := (blk_cell hbx8 1).trans rfl
          have t3 : w8.cell? ⟨t, 3, none⟩ = some (.slice (some ⟨lb, 0, none⟩) N N) := hT8.c3
          have lx : w8.cell? ⟨lb, x, none⟩ = some (.int .i64 (s2.low x : Int)) := hT8.lw.cell hx
          have lu : w8.cell? ⟨lb, u, none⟩ = some (.int .i64 (s2.low u : Int)) := hT8.lw.cell huN
          have fx : w8.frozen? ⟨lb, x, none⟩ = false := hT8.lw.free x
          obtain ⟨m, hm⟩ : ∃ m, m = min (s2.low x) (s2.low u) := ⟨_, rfl⟩
          have hmin : min (s2.low x : Int) (s2.low u : Int) = (m : Int) := by rw [hm]; omega
          have HM8 := hid (HM.out.child HI.out h0 HED.out hz hP)
          rw [← hm] at HM8
          have HT8 := hid (hT8.setLow hx m)
          have HR8 := hid ((HR6.out.trans hF8).set ⟨lb, x, none⟩ (.int .i64 (m : Int)) (.inr (.inr (.inl rfl))))
          have HM9 : Hid (Mid (Edge es mask) N s gray x (PE L mask (p + 1)) (lower s2 x m)) := hid (HM8.out.weak fun y hy => PE.step HGT.out rfl hy)
          clear hP hT8 hF8 HT6 HR6 HM8 X6 y2 HC hbx8 hm
          go_region
          have HT9 : Hid (TM W0.heap.size ((w8.setCell ⟨lb, x, none⟩ (.int .i64 (m : Int))).drew) t g sb lb ob mask N (tvs (lower s2 x m) vS2 vF2 vals2)) := hid (HT8.out.below (Below.refl _ _).drew)
          have HR9 := hid (HR8.out.drew)
          clear t3 lx lu fx y8 hmin HT8 HR8
          go_wp2_with fail
          go_roundg (L.length - (p + 1))
          case measure => omega
          case rel => exact ⟨p + 1, _, vS2, vF2, vals2, by omega, rfl, by go_num, HM9, HT9, HR9⟩
        · have hz' : ((s1.seen u : Int) == 0) = false := by simp [hz]
          have hz2 : ¬ (s1.seen u : Int) = 0 := by omega
          go_region_held3 (fun W : World => W.cell? ⟨bx, 0, none⟩ = some (.int .i64 (x : Int)) ∧ W.cell? ⟨bx, 1, none⟩ = some (.int .i64 (u : Int)) ∧ W.cell? ⟨bx, 2, none⟩ = some (.int .i64 el) ∧ W.cell? ⟨t, 1, none⟩ = some (.int .i64 mask)) (go_keep) (first | (go_at_call 34; refine HI5.out.mono ?_; rintro e w5 ⟨rfl, hla⟩; have z0 : w5.cell? ⟨bx, 0, none⟩ = some (.int .i64 (x : Int)) := (hla.below.cell (p := ⟨bx, 0, none⟩) (blk_lt X4.out)).trans x0; have z1 : w5.cell? ⟨bx, 1, none⟩ = some (.int .i64 (u : Int)) := (hla.below.cell (p := ⟨bx, 1, none⟩) (blk_lt X4.out)).trans x1; have z2 : w5.cell? ⟨bx, 2, none⟩ = some (.int .i64 el) := (hla.below.cell (p := ⟨bx, 2, none⟩) (blk_lt X4.out)).trans x2; have z3 : w5.cell? ⟨t, 1, none⟩ = some (.int .i64 mask) := (hla.below.cell (p := ⟨t, 1, none⟩) HT4.out.lt).trans t1))
          have HT5 := hid ((HT4.out.below (Below.refl _ _).drew).below hla.below)
          have HR5 := hid ((HR4.out.below (Below.refl _ _).drew).below hla.below)
          have X5 := hid ((hla.below.block bx (blk_lt X4.out)).trans X4.out)
          have y1 : w5.cell? ⟨bx, 1, none⟩ = some (.int .i64 (u : Int)) := (blk_cell X5.out 1).trans rfl
          have t2 : w5.cell? ⟨t, 2, none⟩ = some (.slice (some ⟨sb, 0, none⟩) N N) := HT5.out.c2
          have su : w5.cell? ⟨sb, u, none⟩ = some (.int .i64 (s1.seen u : Int)) := HT5.out.sn.cell huN
          clear x0 x1 x2 t1 hla HI5 z0 z1 z2 z3
          go_upto_region 8 with fail
          go_still (by kernel_rfl)
          generalize hwd : ({ heap := w5.heap, tape := w5.tape, drawn := w5.drawn + 1, os := w5.os, output := w5.output } : World) = wd
          have hwd' : w5.drew = wd := hwd
          have hbd : Below w5.heap.size w5 wd := by rw [← hwd']; exact (Below.refl _ w5).drew
          have HT6 := hid (HT5.out.below hbd)
          have HR6 := hid (HR5.out.below hbd)
          have X6 := hid ((hbd.block bx (blk_lt X5.out)).trans X5.out)
          have y2 : wd.cell? ⟨bx, 1, none⟩ = some (.int .i64 (u : Int)) := (blk_cell X6.out 1).trans rfl
          have t5 : wd.cell? ⟨t, 5, none⟩ = some (.slice (some ⟨ob, 0, none⟩) N N) := HT6.out.c5
          have ou : wd.cell? ⟨ob, u, none⟩ = some (.bool (decide (u ∈ s1.stk))) := HT6.out.on.cell huN
          clear hwd hwd' hbd HT5 HR5 X5 y1 t2 su HIH
          by_cases hst : u ∈ s1.stk
          · rw [decide_eq_true hst] at ou
            go_upto_region 11 with fail
            go_still (by kernel_rfl)
            generalize hwd : ({ heap := wd.heap, tape := wd.tape, drawn := wd.drawn + 1, os := wd.os, output := wd.output } : World) = we
            have hwd' : wd.drew = we := hwd
            have hbd : Below wd.heap.size wd we := by rw [← hwd']; exact (Below.refl _ wd).drew
            have HT7 := hid (HT6.out.below hbd)
            have HR7 := hid (HR6.out.below hbd)
            have X7 := hid ((hbd.block bx (blk_lt X6.out)).trans X6.out)
            have y8 : we.cell? ⟨bx, 1, none⟩ = some (.int .i64 (u : Int)) := (blk_cell X7.out 1).trans rfl
            have t2 : we.cell? ⟨t, 2, none⟩ = some (.slice (some ⟨sb, 0, none⟩) N N) := HT7.out.c2
            have t3 : we.cell? ⟨t, 3, none⟩ = some (.slice (some ⟨lb, 0, none⟩) N N) := HT7.out.c3
            have lx : we.cell? ⟨lb, x, none⟩ = some (.int .i64 (s1.low x : Int)) := HT7.out.lw.cell hx
            have su : we.cell? ⟨sb, u, none⟩ = some (.int .i64 (s1.seen u : Int)) := HT7.out.sn.cell huN
            have fx : we.frozen? ⟨lb, x, none⟩ = false := HT7.out.lw.free x
            obtain ⟨m, hm⟩ : ∃ m, m = min (s1.low x) (s1.seen u) := ⟨_, rfl⟩
            have hmin : min (s1.low x : Int) (s1.seen u : Int) = (m : Int) := by rw [hm]; omega
            have HM8 := hid (HM.out.onstk HI.out h0 HED.out hst)
            rw [← hm] at HM8
            have HT8 := hid (HT7.out.setLow hx m)
            have HR8 := hid (HR7.out.set ⟨lb, x, none⟩ (.int .i64 (m : Int)) (.inr (.inr (.inl rfl))))
            have HM9 : Hid (Mid (Edge es mask) N s gray x (PE L mask (p + 1)) (lower s1 x m)) := hid (HM8.out.weak fun y hy => PE.step HGT.out rfl hy)
            clear HT6 HR6 HM8 X6 y2 hm t5 ou hwd hwd' hbd HT7 HR7 X7 hz' hz2
            go_upto_region 12 with fail
            go_region
            have HT9 : Hid (TM W0.heap.size ((we.setCell ⟨lb, x, none⟩ (.int .i64 (m : Int))).drew) t g sb lb ob mask N (tvs (lower s1 x m) vS1 vF1 vals1)) := hid (HT8.out.below (Below.refl _ _).drew)
            have HR9 := hid (HR8.out.drew)
            clear t2 t3 lx su fx y8 hmin HT8 HR8
            go_wp2_with fail
            go_roundg (L.length - (p + 1))
            case measure => omega
            case rel => exact ⟨p + 1, _, vS1, vF1, vals1, by omega, rfl, by go_num, HM9, HT9, HR9⟩
          · rw [decide_eq_false hst] at ou
            go_upto_region 11 with fail
            go_still (by kernel_rfl)
            generalize hwd : ({ heap := wd.heap, tape := wd.tape, drawn := wd.drawn + 1, os := wd.os, output := wd.output } : World) = we
            have hwd' : wd.drew = we := hwd
            have hbd : Below wd.heap.size wd we := by rw [← hwd']; exact (Below.refl _ wd).drew
            have HT7 := hid (HT6.out.below hbd)
            have HR7 := hid (HR6.out.below hbd)
            have HM9 : Hid (Mid (Edge es mask) N s gray x (PE L mask (p + 1)) s1) := hid ((HM.out.offstk hz hst).weak fun y hy => PE.step HGT.out rfl hy)
            clear HT6 HR6 X6 y2 t5 ou hwd hwd' hbd hz' hz2
            go_wp2_with fail
            go_roundg (L.length - (p + 1))
            case measure => omega
            case rel => exact ⟨p + 1, s1, vS1, vF1, vals1, by omega, rfl, by go_num, HM9, HT7, HR7⟩
    · have hpe : p = L.length := by omega
      have hall : ∀ u, Edge es mask x u → PE L mask p u := fun u ⟨e, he, h1, h2, h3⟩ => by
        obtain ⟨j, hj⟩ := List.mem_iff_getElem?.1 (mem_rowE hx he h1)
        rw [← HLr.out] at hj
        exact ⟨j, by rw [hpe]; exact (List.getElem?_eq_some_iff.1 hj).1, e, hj, h2, h3⟩
      have HALL := hid hall
      have t2 : wr.cell? ⟨t, 2, none⟩ = some (.slice (some ⟨sb, 0, none⟩) N N) := HT.out.c2
      have t3 : wr.cell? ⟨t, 3, none⟩ = some (.slice (some ⟨lb, 0, none⟩) N N) := HT.out.c3
      have lx : wr.cell? ⟨lb, x, none⟩ = some (.int .i64 (s1.low x : Int)) := HT.out.lw.cell hx
      have sx : wr.cell? ⟨sb, x, none⟩ = some (.int .i64 (s1.seen x : Int)) := HT.out.sn.cell hx
      clear hall
      by_cases hlt : s1.low x < s1.seen x
      · have hltI : (s1.low x : Int) < (s1.seen x : Int) := by omega
        have HST := hid (HM.out.stay HI.out HALL.out hlt)
        go_upto_region 14 with fail
        go_still (by kernel_rfl)
        generalize hwd : ({ heap := wr.heap, tape := wr.tape, drawn := wr.drawn + 1, os := wr.os, output := wr.output } : World) = wd
        have hwd' : wr.drew = wd := hwd
        have hbd : Below wr.heap.size wr wd := by rw [← hwd']; exact (Below.refl _ wr).drew
        have HT6 := hid (HT.out.below hbd)
        have HR6 := hid (HR.out.below hbd)
        clear t2 t3 lx sx HT HR hwd hwd' hbd
        go_wp2_with fail
        exact bodyPost_ret (v := .tuple #[]) (by simp [results, Try.results35, go_sem]) rfl ⟨rfl, s1, vS1, vF1, vals1, HST.out, HT6.out, HR6.out⟩
      · have hltI : ¬ (s1.low x : Int) < (s1.seen x : Int) := by omega
        have HNL := hid hlt
        go_upto_region 14 with fail
        go_still (by kernel_rfl)
        generalize hwd : ({ heap := wr.heap, tape := wr.tape, drawn := wr.drawn + 1, os := wr.os, output := wr.output } : World) = wl
        have hwd' : wr.drew = wl := hwd
        have hbd : Below wr.heap.size wr wl := by rw [← hwd']; exact (Below.refl _ wr).drew
        have HT6 := hid (HT.out.below hbd)
        have HR6 := hid (HR.out.below hbd)
        obtain ⟨l, hl, _⟩ := HM.out.ext
        have hM1 : s1.stk.length ≤ N := nodup_le N s1.stk HM.out.inv.nodup fun y hy => (HM.out.inv.pos y hy).1
        have hML : l.length < s1.stk.length := by rw [hl]; simp
        obtain ⟨b, cap, rfl, hcap⟩ : ∃ b cap, vS1 = .slice (some ⟨b, 0, none⟩) s1.stk.length cap ∧ s1.stk.length ≤ cap := by
          rcases HT.out.st.2 with ⟨_, h1⟩ | ⟨b, cap, cur, h1, _, _, h2, _⟩
          · have : s1.stk.reverse.length = 0 := h1
            rw [List.length_reverse] at this
            omega
          · refine ⟨b, cap, ?_, ?_⟩
            · rw [show vS1 = _ from h1]
              show Value.slice (some ⟨b, 0, none⟩) s1.stk.reverse.length cap = _
              rw [List.length_reverse]
            · have : s1.stk.reverse.length ≤ cap := h2
              rwa [List.length_reverse] at this
        have HBL : Hid (∀ k, (TB t sb lb ob (.slice (some ⟨b, 0, none⟩) s1.stk.length cap) vF1 k ∨ ∃ (i : Nat) (u : Value), vals1[i]? = some u ∧ u.ownBlock = some k) → k < wl.heap.size) := hid fun k hk => by
          rcases hk with h1 | ⟨i, u, h1, h2⟩
          · exact (HT6.out.tb_lt h1).2
          · exact (HT6.out.grp_lt h1 h2).2
        have HR6s : Hid (w.heap.size ≤ wl.heap.size) := hid HR6.out.1.size
        have hWl : W0.heap.size ≤ wl.heap.size := Nat.le_trans HBr.out.size hbd.size
        obtain ⟨M, hM⟩ : ∃ M, M = s1.stk.length := ⟨_, rfl⟩
        have HMl := hid hM
        have HL1 := hid hl
        rw [← hM] at HT6 HR6 HBL hcap hM1 hML
        have HT7 : Hid (TM W0.heap.size wl t g sb lb ob mask N ⟨s1.cnt, s1.seen, s1.low, fun y => decide (y ∈ s1.stk.drop 0), s1.stk.drop 0, s1.fnd, .slice (some ⟨b, 0, none⟩) M cap, vF1, vals1⟩) := HT6
        clear t2 t3 lx sx HT HR hwd hwd' hbd hl hM HT6 hlt hltI
        go_wp2_with fail
        go_loopg [6] (l.length + 1) (fun gh s6 wr => ∃ i n : Nat, n + i = M ∧ i ≤ l.length ∧ gh = l.length - i + 1 ∧ Hid (OwnN wr W0.heap.size s6 (l.take i)) ∧ Hid (∀ k, s6.ownBlock = some k → wl.heap.size ≤ k) ∧
          Hid (TM W0.heap.size wr t g sb lb ob mask N ⟨s1.cnt, s1.seen, s1.low, fun y => decide (y ∈ s1.stk.drop i), s1.stk.drop i, s1.fnd, .slice (some ⟨b, 0, none⟩) n cap, vF1, vals1⟩) ∧ Hid (Fr t sb lb ob w vS vF wr (.slice (some ⟨b, 0, none⟩) M cap) vF1) ∧ Hid (wl.heap.size ≤ wr.heap.size))
        case atStart => exact ⟨0, M, rfl, Nat.zero_le _, rfl, hid (World.ownsRow_nil _ _ _ _), hid (fun k hk => by simp [Value.ownBlock] at hk), HT7, HR6, hid (Nat.le_refl _)⟩
        case round =>
          clear HT7 HR6
          obtain ⟨i, m, hmi, hil, rfl, HO, HON, HT, HR, HWL⟩ := hrel
          obtain ⟨v6, rfl⟩ : ∃ v, v = u6 := ⟨_, rfl⟩
          obtain ⟨n, hmn⟩ : ∃ n, m = n + 1 := ⟨m - 1, by omega⟩
          have hni : n + 1 + i = M := by omega
          have hlen := HMl.out
          have hiM : i < s1.stk.length := by omega
          obtain ⟨y, hy⟩ : ∃ y, y = s1.stk[i] := ⟨_, rfl⟩
          have hdrop : s1.stk.drop i = y :: s1.stk.drop (i + 1) := by rw [hy]; exact List.drop_eq_getElem_cons _
          have hrev : (s1.stk.drop i).reverse = (s1.stk.drop (i + 1)).reverse ++ [y] := by rw [hdrop, List.reverse_cons]
          have hrl : (s1.stk.drop (i + 1)).reverse.length = n := by rw [List.length_reverse, List.length_drop]; omega
          have hym : y ∈ s1.stk := by rw [hy]; exact List.getElem_mem _
          have hyN : y < N := (HM.out.inv.pos y hym).1
          have hyI : (y : Int) < (N : Int) := by omega
          have HST : OwnN wr W0.heap.size (.slice (some ⟨b, 0, none⟩) (n + 1) cap) ((s1.stk.drop (i + 1)).reverse ++ [y]) := by
            have := HT.out.st
            rw [← hrev, ← hmn]
            exact this
          have t4 : wr.cell? ⟨t, 4, none⟩ = some (.slice (some ⟨b, 0, none⟩) m cap) := HT.out.c4
          have yc := own_last HST hrl
          have HP := hid (own_pop HST hrl)
          have HNI := hid hni
          have HY := hid hy
          have HYM := hid hym
          have hnc : n ≤ cap := by omega
          have hn63 : (n : Int) ≤ 1024 := by omega
          have hw1 : IntKind.i64.wrap ((m : Int) - 1) = (n : Int) := by rw [IntKind.wrap_i64]; omega
          have hnm : n < m := by omega
          have hnmI : (n : Int) < (m : Int) := by omega
          have HMN := hid hmn
          have hncI : (n : Int) ≤ (cap : Int) := by omega
          clear hlen hdrop hrev hrl hym hy HST hmn hni hmi
          go_upto_region 16 with fail
          go_still (by kernel_rfl)
          generalize hwd : ({ heap := wr.heap, tape := wr.tape, drawn := wr.drawn + 1, os := wr.os, output := wr.output } : World) = wd
          have hwd' : wr.drew = wd := hwd
          have hbd : Below wr.heap.size wr wd := by rw [← hwd']; exact (Below.refl _ wr).drew
          have HT1 := hid (HT.out.below hbd)
          have HR1 := hid (HR.out.below hbd)
          have HO1 := hid (World.ownsRow.below' HO.out hbd)
          have HP1 := hid (World.ownsRow.below' HP.out hbd)
          have HW1 := hid (Nat.le_trans HWL.out hbd.size)
          clear t4 yc hwd hwd' hbd HT HR HO HP HWL
          have t4 : wd.cell? ⟨t, 4, none⟩ = some (.slice (some ⟨b, 0, none⟩) m cap) := HT1.out.c4
          have f4 : wd.frozen? ⟨t, 4, none⟩ = false := blk_free HT1.out.ht 4
          have htl : t < wl.heap.size := HBL.out t (.inl (.inl rfl))
          have hol : ob < wl.heap.size := HBL.out ob (.inl (.inr (.inr (.inr (.inl rfl)))))
          have hnt : v6.ownBlock ≠ some t := fun e => by have := HON.out t e; omega
          have hno : v6.ownBlock ≠ some ob := fun e => by have := HON.out ob e; omega
          have HT2 := hid ((HT1.out.setStk (v' := .slice (some ⟨b, 0, none⟩) n cap) (l := s1.stk.drop (i + 1)) (grownBy_refl _ _) HP1.out (.inl rfl)).below (Below.refl _ _).drew)
          have HR2 := hid ((HR1.out.stk (v' := .slice (some ⟨b, 0, none⟩) n cap) (grownBy_refl _ _) (.inl rfl)).below (Below.refl _ _).drew)
          have HO2 := hid (World.ownsRow.below' (own_other HO1.out t 4 (.slice (some ⟨b, 0, none⟩) n cap) hnt) (Below.refl _ _).drew)
          have HW2 : Hid (wl.heap.size ≤ ((wd.setCell ⟨t, 4, none⟩ (.slice (some ⟨b, 0, none⟩) n cap)).drew).heap.size) := hid (by have := HW1.out; simp [World.setCell, World.drew] at *; omega)
          go_upto_region 17 with fail
          go_region
          obtain ⟨we, hwe⟩ : ∃ we, (wd.setCell ⟨t, 4, none⟩ (.slice (some ⟨b, 0, none⟩) n cap)).drew = we := ⟨_, rfl⟩
          rw [hwe] at HT2 HR2 HO2 HW2 ⊢
          clear hwe t4 f4 HT1 HR1 HO1 HP1 HW1 hw1 hnm hnmI hncI
          have t5 : we.cell? ⟨t, 5, none⟩ = some (.slice (some ⟨ob, 0, none⟩) N N) := HT2.out.c5
          have oy : we.cell? ⟨ob, y, none⟩ = some (.bool (decide (y ∈ s1.stk.drop i))) := HT2.out.on.cell hyN
          have fy : we.frozen? ⟨ob, y, none⟩ = false := HT2.out.on.free y
          have HT3 := hid (HT2.out.setOn hyN false)
          have HR3 := hid (HR2.out.set ⟨ob, y, none⟩ (.bool false) (.inr (.inr (.inr (.inl rfl)))))
          have HO3 := hid (own_other HO2.out ob y (.bool false) hno)
          have HW3 : Hid (wl.heap.size ≤ (we.setCell ⟨ob, y, none⟩ (.bool false)).heap.size) := hid (by have := HW2.out; simpa [World.setCell] using this)
          go_upto_region 19 with fail
          obtain ⟨wf, hwf⟩ : ∃ wf, we.setCell ⟨ob, y, none⟩ (.bool false) = wf := ⟨_, rfl⟩
          rw [hwf] at HT3 HR3 HO3 HW3 ⊢
          clear hwf t5 oy fy HT2 HR2 HO2 HW2
          have hal := (Below.refl _ wf).alloc (Nat.le_refl _) (.cells #[.int .i64 (y : Int)] 3)
          obtain ⟨v7, wg, hrun, hO4, hg4, hv4⟩ := n_append (HO3.out.alloc (.cells #[.int .i64 (y : Int)] 3)) (Nat.le_trans (Nat.le_trans hWl HW3.out) hal.size) y 38 wf.heap.size (heap_alloc_new wf _) (by rw [List.length_take]; omega)
          obtain ⟨a7, n7, c7, rfl⟩ := own_slice hO4
          have HT4 : Hid (TM W0.heap.size wg t g sb lb ob mask N ⟨s1.cnt, s1.seen, s1.low, fun y => decide (y ∈ s1.stk.drop (i + 1)), s1.stk.drop (i + 1), s1.fnd, .slice (some ⟨b, 0, none⟩) n cap, vF1, vals1⟩) := hid (((HT3.out.below hal).kept (fun k hk hb => hg4.block k hk fun e => by
            have h1 := HBL.out k hb
            have h2 := HON.out k e.symm
            omega)).onExt (on' := fun y => decide (y ∈ s1.stk.drop (i + 1))) fun z _ => by
              have hnd : (s1.stk.drop i).Nodup := HM.out.inv.nodup.sublist (List.drop_sublist _ _)
              have hdr : s1.stk.drop i = y :: s1.stk.drop (i + 1) := by rw [HY.out]; exact List.drop_eq_getElem_cons _
              rw [hdr, List.nodup_cons] at hnd
              show upd (fun y => decide (y ∈ s1.stk.drop i)) y false z = _
              by_cases e : z = y
              · rw [e, upd_same]
                exact (decide_eq_false hnd.1).symm
              · rw [upd_other e, hdr]
                simp [e])
          have HR4 := hid ((HR3.out.below hal).grown hg4 fun k e => Nat.le_trans HR6s.out (HON.out k e))
          have HO4 := hid hO4
          have HW4 : Hid (wl.heap.size ≤ wg.heap.size) := hid (Nat.le_trans (Nat.le_trans HW3.out hal.size) hg4.size)
          have HON4 : Hid (∀ k, (Value.slice a7 n7 c7).ownBlock = some k → wl.heap.size ≤ k) := hid fun k e => by
            rcases hv4 with h1 | h1
            · exact HON.out k (h1 ▸ e)
            · rw [h1] at e
              cases e
              exact Nat.le_trans HW3.out hal.size
          clear hO4 hg4 hv4 HT3 HR3 HO3 HW3 HON hal hnt hno
          by_cases hyx : y = x
          · have hxy : x = y := hyx.symm
            subst hxy
            have hi2 : i = l.length := by
              refine Nat.le_antisymm hil (Nat.le_of_not_lt fun hh => ?_)
              have hnd := HM.out.inv.nodup
              have h1 : s1.stk[i]? = some x := by rw [HY.out]; exact List.getElem?_eq_getElem _
              rw [HL1.out, List.getElem?_append_left hh] at h1
              rw [HL1.out, List.nodup_append] at hnd
              exact hnd.2.2 x (List.mem_of_getElem? h1) x List.mem_cons_self rfl
            have HG : Hid (OwnN wg W0.heap.size (.slice a7 n7 c7) (l ++ [x])) := hid (by
              have := HO4.out
              rw [hi2, List.take_length] at this
              exact this)
            have hdx : s1.stk.drop (i + 1) = s.stk := by
              rw [HL1.out, hi2]
              simp
            have HT5 : Hid (TM W0.heap.size wg t g sb lb ob mask N ⟨s1.cnt, s1.seen, s1.low, fun y => decide (y ∈ s.stk), s.stk, s1.fnd, .slice (some ⟨b, 0, none⟩) n cap, vF1, vals1⟩) := hid (by rw [← hdx]; exact HT4.out)
            have HS := hid (sortN_any HG.out (by simp) (by rw [List.length_append]; simp; omega))
            have hsx := HM.out.inv.nodup
            rw [HL1.out] at hsx
            have hnd2 : (l ++ [x]).Nodup := by
              have h1 : l ++ x :: s.stk = (l ++ [x]) ++ s.stk := by simp
              rw [h1, List.nodup_append] at hsx
              exact hsx.1
            have HND := hid hnd2
            have hfl : s1.fnd.length ≤ N := HM.out.inv.fnd_le
            clear HT4 HO4 hdx hi2 HY HYM hsx hnd2
            go_upto_region 22 with (first | (at_builtin; refine wpList_append_run _ rfl (.tmp 189) (.tmp 191) 38 38 rfl _ _ rfl rfl hrun ?_) | (go_at_call 48; refine HS.out.mono ?_; rintro e wh ⟨rfl, gs, hgp, hgs, hgo, hgg⟩))
            have HP := hid (HM.out.pop HI.out HALL.out (fun a c h => edge_lt HG0.out.ok h) HNL.out HL1.out hgp (sorted_lt hgs (hgp.nodup_iff.2 HND.out)))
            have HT6 := hid (HT5.out.kept (fun k hk hb => hgg.block k hk fun e => by
              have h1 := HBL.out k hb
              have h2 := HON4.out k e.symm
              omega))
            have HR6 := hid (HR4.out.grown hgg fun k e => Nat.le_trans HR6s.out (HON4.out k e))
            have hal := (Below.refl _ wh).alloc (Nat.le_refl _) (.cells #[.slice a7 n7 c7] 38)
            have HT7 := HT6.out.below hal
            obtain ⟨v8, wi, hrun2, hO8, hg8, hv8⟩ := v_append HT7.fd (Nat.le_trans (Nat.le_trans hWl (Nat.le_trans HW4.out hgg.size)) hal.size) (.slice a7 n7 c7) rfl 47 wh.heap.size (heap_alloc_new wh _) (by have := HT7.ln; show vals1.length ≤ 100000; have e : vals1.length = s1.fnd.length := this; omega)
            obtain ⟨a8, n8, c8, rfl⟩ := own_slice hO8
            have hgo' : OwnN (wh.alloc (.cells #[.slice a7 n7 c7] 38)) W0.heap.size (.slice a7 n7 c7) gs := hgo.alloc _
            have HT8 := hid (HT7.setFnd hg8 hO8 hv8 hgo' fun k e => ⟨fun hh => by
              have h1 := HBL.out k (.inl hh)
              have h2 := HON4.out k e
              omega, fun i u hu e2 => by
              have h1 := HBL.out k (.inr ⟨i, u, hu, e2⟩)
              have h2 := HON4.out k e
              omega⟩)
            have HR8 := hid ((HR6.out.below hal).fnd hg8 hv8)
            have t7 : wh.cell? ⟨t, 7, none⟩ = some vF1 := HT6.out.c7
            have htl2 : t < (wh.alloc (.cells #[.slice a7 n7 c7] 38)).heap.size := HT7.lt
            have ht8 : wi.heap[t]? = _ := (hg8.block t htl2 (fun e => (HT7.aF t e.symm).1 rfl)).trans HT7.ht
            have t7' : wi.cell? ⟨t, 7, none⟩ = some vF1 := (blk_cell ht8 7).trans rfl
            have f7' : wi.frozen? ⟨t, 7, none⟩ = false := blk_free ht8 7
            clear hgp hgs hgo hgg HT6 HR6 hal HT7 hO8 hg8 hv8 hgo' htl2 ht8 hrun HS
            go_wp2_with (at_builtin; refine wpList_append_run _ rfl (.tmp 202) (.tmp 204) 47 47 rfl _ _ rfl rfl hrun2 ?_)
            exact bodyPost_end (v := .tuple #[]) (by simp [results, Try.results35, go_sem]) rfl ⟨rfl, _, _, _, _, HP.out, HT8.out, HR8.out⟩
          · have hyI2 : ((y : Int) == (x : Int)) = false := by simp; omega
            have hyI3 : ¬ (y : Int) = (x : Int) := by omega
            have hi2 : i < l.length := by
              refine Nat.lt_of_le_of_ne hil fun hh => ?_
              have h1 : s1.stk[i]? = some y := by rw [HY.out]; exact List.getElem?_eq_getElem _
              rw [HL1.out, hh, List.getElem?_append_right (Nat.le_refl _), Nat.sub_self] at h1
              simp at h1
              exact hyx h1.symm
            have HO5 : Hid (OwnN wg W0.heap.size (.slice a7 n7 c7) (l.take (i + 1))) := hid (by
              have h1 : s1.stk[i]? = some y := by rw [HY.out]; exact List.getElem?_eq_getElem _
              rw [HL1.out, List.getElem?_append_left hi2] at h1
              rw [List.take_add_one, h1]
              exact HO4.out)
            clear HO4 HY HYM
            go_wp2_with (at_builtin; refine wpList_append_run _ rfl (.tmp 189) (.tmp 191) 38 38 rfl _ _ rfl rfl hrun ?_)
            go_roundg (l.length - (i + 1) + 1)
            case measure => omega
            case rel => exact ⟨i + 1, n, by have := HNI.out; omega, by omega, rfl, HO5, HON4, HT4, HR4, HW4⟩
end Go.Proofs.Ytbbfbkoanbdghaa
