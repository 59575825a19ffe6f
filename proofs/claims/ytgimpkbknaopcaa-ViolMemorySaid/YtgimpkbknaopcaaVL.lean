/- New, Total and Put of a Top. No statement is proved here. -/
import Derived.Test.YtgimpkbknaopcaaVK
import Derived.Test.YtgimpkbknaopcaaVC
set_option linter.unusedVariables false
set_option linter.unusedSimpArgs false
namespace Go.Proofs.Ytgimpkbknaopcaa
open Go.RowKit Go.Shelf Go.Lib
open Go.Sort hiding Below

theorem new_bad (n : Int) (w : World) (h : n < 0 ∨ 10000 < n) : Calls Try.prog 10 #[.int .i64 n] w fun e w' => e = .returned (.tuple #[.pointer none, .int .i64 180]) ∧ w' = w := by
  have hin : inB n 0 10000 = false := by simp [inB]; omega
  go_enter Try.func10, Try.ntmps10
  go_wp2_with (go_at_call 23; refine (within_any _ _ _ _).mono ?_; rintro e w' ⟨rfl, rfl⟩)
  go_ret2
  exact ⟨rfl, rfl⟩
def NewPost (n : Int) (w : World) (e : Ending) (w' : World) : Prop := ∃ t, e = .returned (.tuple #[.pointer (some ⟨t, 0, none⟩), .int .i64 0]) ∧ Tp (fun k => k < w.heap.size) w' t n 0 (.slice none 0 0) [] ∧ Below w.heap.size w w'
theorem new_good (n : Int) (w : World) (h0 : 0 ≤ n) (h1 : n ≤ 10000) : Calls Try.prog 10 #[.int .i64 n] w (NewPost n w) := by
  have hin : inB n 0 10000 = true := by simp [inB]; omega
  go_enter Try.func10, Try.ntmps10
  go_wp2_with (go_at_call 23; refine (within_any _ _ _ _).mono ?_; rintro e w' ⟨rfl, rfl⟩)
  go_ret2
  refine ⟨_, rfl, ⟨heap_alloc_new _ _, World.ownsRow_nil _ _ _ _, by simp [Value.ownBlock], Nat.lt_irrefl _, fun k hk => by simp [Value.ownBlock] at hk⟩, (Below.refl _ _).alloc (Nat.le_refl _) _⟩
theorem total_any (B : Nat → Prop) (t : Nat) (lim tot : Int) (v : Value) (l : List Pt) (w : World) (h : Tp B w t lim tot v l) : Calls Try.prog 16 #[.pointer (some ⟨t, 0, none⟩)] w fun e w' => e = .returned (.int .i64 tot) ∧ w' = w := by
  have c1 : w.cell? ⟨t, 1, none⟩ = some (.int .i64 tot) := (blk_cell h.ht 1).trans rfl
  go_enter Try.func16, Try.ntmps16
  go_wp2
  go_ret
  exact ⟨rfl, rfl⟩
theorem tp_tot {B : Nat → Prop} {w : World} {t : Nat} {lim tot : Int} {v : Value} {l : List Pt} (h : Tp B w t lim tot v l) (x : Int) (hB : Fit B w.heap.size) : Tp B (w.setCell ⟨t, 1, none⟩ (.int .i64 x)) t lim x v l ∧ Bel B w (w.setCell ⟨t, 1, none⟩ (.int .i64 x)) := by
  have hu := (Upd.refl (fun k => k = t) w).setCell (p := ⟨t, 1, none⟩) (fun _ => rfl) (.int .i64 x)
  have h1 := heap_setCell_same w t 1 _ _ (.int .i64 x) h.ht
  refine ⟨⟨h1, own_kept h.own (fun k hk => hu.block k (own_lt h.own k hk) (fun e => h.ne (by rw [hk, e]))), h.ne, h.bt, h.bv⟩, hu.bel hB (fun k hk => hk ▸ h.bt)⟩

theorem own_set0 {w : World} {g n cap : Nat} {q : Pt} {r : List Pt} (h : Own w (.slice (some ⟨g, 0, none⟩) n cap) (q :: r)) (p : Pt) : Own (w.setCells g 0 (encP p)) (.slice (some ⟨g, 0, none⟩) n cap) (p :: r) ∧ Upd (fun k => k = g) w (w.setCells g 0 (encP p)) := by
  rcases h.2 with ⟨hh, _⟩ | ⟨g0, cap0, cur, hv0, k0, hg, hle, hcm, hcs, htk⟩
  · cases hh
  · have e : g = g0 := by simp at hv0; exact hv0.1
    subst e
    have key : ∀ (vs : List Value) (W : World) (o : Nat) (c : Array Value), W.heap[g]? = some (.cells c 55 (0, 0)) → (W.setCells g o vs).heap[g]? = some (.cells (setMany c o vs) 55 (0, 0)) ∧ Upd (fun k => k = g) W (W.setCells g o vs) := by
      intro vs
      induction vs with
      | nil => intro W o c hW; exact ⟨hW, Upd.refl _ _⟩
      | cons u r ih =>
        intro W o c hW
        obtain ⟨a1, a2⟩ := ih (W.setCell ⟨g, o, none⟩ u) (o + 1) _ (heap_setCell_same W g o _ _ u hW)
        exact ⟨a1, ((Upd.refl (fun k => k = g) W).setCell (p := ⟨g, o, none⟩) (fun _ => rfl) u).trans a2 (fun i _ hi => hi)⟩
    obtain ⟨k1, k2⟩ := key (encP p) w 0 cur hg
    refine ⟨⟨cellsP_length _, .inr ⟨g, cap0, _, hv0, k0, k1, hle, hcm, by rw [size_setMany]; exact hcs, ?_⟩⟩, k2⟩
    simp only [encP, setMany, Array.toList_setIfInBounds, List.take_set]
    rw [show (p :: r).length = (q :: r).length from rfl, htk]
    simp [cellsP, encP]
theorem tp_set0 {B : Nat → Prop} {w : World} {t g n cap : Nat} {lim tot : Int} {q : Pt} {l r : List Pt} (h : Tp B w t lim tot (.slice (some ⟨g, 0, none⟩) n cap) l) (hn : n = l.length) (hl : l = q :: r) (p : Pt) (hB : Fit B w.heap.size) :
    Tp B (w.setCells g 0 (encP p)) t lim tot (.slice (some ⟨g, 0, none⟩) (p :: r).length cap) (p :: r) ∧ Bel B w (w.setCells g 0 (encP p)) := by
  subst hl
  have hn' : n = (p :: r).length := hn
  obtain ⟨o1, o2⟩ := own_set0 h.own p
  have htg : t ≠ g := fun e => h.ne (by rw [e]; rfl)
  have hb := o2.block t (blk_lt h.ht) htg
  rw [← hn']
  exact ⟨⟨by rw [hb]; exact h.ht, o1, h.ne, h.bt, h.bv⟩, o2.bel hB (fun k hk => hk ▸ h.bv g rfl)⟩
/-- What Put makes of the row. -/
def putA (lim : Int) (l : List Pt) (p : Pt) : List Pt :=
  if (l.length : Int) < lim then (upA (l ++ [p]).toArray l.length).toList
  else if h : 0 < l.length then (if behindB l[0] p = true then (siftDown (ltOf cfP) l.length 0 0 (l.set 0 p).toArray).toList else l) else l
def PutPost (B : Nat → Prop) (w : World) (t : Nat) (lim tot : Int) (l : List Pt) (v : V) (e : Ending) (w' : World) : Prop :=
  (validB v = false ∧ e = .returned (.int .i64 181) ∧ Below w.heap.size w w') ∨
  (validB v = true ∧ e = .returned (.int .i64 0) ∧ ∃ hv', Tp B w' t lim (tot + 1) hv' (putA lim l (Pt.mk v (tot + 1))) ∧ Bel B w w')
set_option maxHeartbeats 8000000 in
set_option maxRecDepth 1000000 in
theorem put_any (B : Nat → Prop) (t : Nat) (lim tot : Int) (hv : Value) (l : List Pt) (v : V) (w : World) (h : Tp B w t lim tot hv l) (hl0 : 0 ≤ lim) (hl1 : lim ≤ 10000) (hl : (l.length : Int) ≤ lim) (ht0 : 0 ≤ tot) (ht1 : tot < 9223372036854775807) (hB : Fit B w.heap.size) :
    Calls Try.prog 11 #[.pointer (some ⟨t, 0, none⟩), v.agg] w (PutPost B w t lim tot l v) := by
  have hal := (Below.refl _ w).alloc (Nat.le_refl _) (.cells #[.int .i64 v.kind, .int .i64 v.time, .int .i64 v.txn, .int .i64 v.op, .int .i64 v.wit, .string v.key, .bool v.want, .string v.exp, .bool v.got, .string v.obs, .int .i64 v.frm, .int .i64 v.to] 30)
  have T0 := h.below hal
  have hx := heap_alloc_new w (.cells #[.int .i64 v.kind, .int .i64 v.time, .int .i64 v.txn, .int .i64 v.op, .int .i64 v.wit, .string v.key, .bool v.want, .string v.exp, .bool v.got, .string v.obs, .int .i64 v.frm, .int .i64 v.to] 30)
  have hb0 := hid hal
  have T0' := hid T0
  have X0 := hid hx
  have htl := blk_lt h.ht
  clear hal T0 hx h
  go_enter Try.func11, Try.ntmps11
  go_wp2_with fail
  refine (valid_any v _).mono ?_
  rintro e w1 ⟨rfl, hb1⟩
  have T1 := hid (T0'.out.below hb1)
  have X1 := hid ((hb1.block w.heap.size (by simp)).trans X0.out)
  have hb1' := hid (hb0.out.trans (hb1.mono hb0.out.size))
  clear hb1 T0' X0 hb0
  cases hval : validB v with
  | false =>
    go_wp2_with fail
    go_ret
    exact .inl ⟨hval, rfl, hb1'.out⟩
  | true =>
    have c1 : w1.cell? ⟨t, 1, none⟩ = some (.int .i64 tot) := (blk_cell T1.out.ht 1).trans rfl
    have f1 := blk_free T1.out.ht 1
    obtain ⟨t2, hb2⟩ := tp_tot T1.out (tot + 1) (Fit.le hB hb1'.out.size)
    have T2 := hid t2
    have X2 := hid ((Below.heap_setCell w1 ⟨t, 1, none⟩ (.int .i64 (tot + 1)) w.heap.size (by show w.heap.size ≠ t; omega)).trans X1.out)
    have hb2' := hid ((Bel.of hb1'.out hB).trans hb2)
    clear t2 hb2 T1 X1 hb1'
    go_upto_region 4 with fail
    clear c1 f1
    generalize hw2 : w1.setCell ⟨t, 1, none⟩ (.int .i64 (tot + 1)) = w2 at *
    clear hw2
    have x0 : w2.cell? ⟨w.heap.size, 0, none⟩ = some (.int .i64 v.kind) := (blk_cell X2.out 0).trans rfl
    have x1 : w2.cell? ⟨w.heap.size, 1, none⟩ = some (.int .i64 v.time) := (blk_cell X2.out 1).trans rfl
    have x2 : w2.cell? ⟨w.heap.size, 2, none⟩ = some (.int .i64 v.txn) := (blk_cell X2.out 2).trans rfl
    have x3 : w2.cell? ⟨w.heap.size, 3, none⟩ = some (.int .i64 v.op) := (blk_cell X2.out 3).trans rfl
    have x4 : w2.cell? ⟨w.heap.size, 4, none⟩ = some (.int .i64 v.wit) := (blk_cell X2.out 4).trans rfl
    have x5 : w2.cell? ⟨w.heap.size, 5, none⟩ = some (.string v.key) := (blk_cell X2.out 5).trans rfl
    have x6 : w2.cell? ⟨w.heap.size, 6, none⟩ = some (.bool v.want) := (blk_cell X2.out 6).trans rfl
    have x7 : w2.cell? ⟨w.heap.size, 7, none⟩ = some (.string v.exp) := (blk_cell X2.out 7).trans rfl
    have x8 : w2.cell? ⟨w.heap.size, 8, none⟩ = some (.bool v.got) := (blk_cell X2.out 8).trans rfl
    have x9 : w2.cell? ⟨w.heap.size, 9, none⟩ = some (.string v.obs) := (blk_cell X2.out 9).trans rfl
    have x10 : w2.cell? ⟨w.heap.size, 10, none⟩ = some (.int .i64 v.frm) := (blk_cell X2.out 10).trans rfl
    have x11 : w2.cell? ⟨w.heap.size, 11, none⟩ = some (.int .i64 v.to) := (blk_cell X2.out 11).trans rfl
    have t1 : w2.cell? ⟨t, 1, none⟩ = some (.int .i64 (tot + 1)) := (blk_cell T2.out.ht 1).trans rfl
    have bt2 : t < w2.heap.size := blk_lt T2.out.ht
    have bx2 : w.heap.size < w2.heap.size := blk_lt X2.out
    go_region
    all_goals clear t1 x0 x1 x2 x3 x4 x5 x6 x7 x8 x9 x10 x11
    clear bt2 bx2
    have hal3 := ((Below.refl _ w2).alloc (Nat.le_refl _) (.cells #[.int .i64 v.kind, .int .i64 v.time, .int .i64 v.txn, .int .i64 v.op, .int .i64 v.wit, .string v.key, .bool v.want, .string v.exp, .bool v.got, .string v.obs, .int .i64 v.frm, .int .i64 v.to, .int .i64 (tot + 1)] 55)).drew
    have T3 := hid (T2.out.below hal3)
    have X3 : Hid (((w2.alloc (.cells #[.int .i64 v.kind, .int .i64 v.time, .int .i64 v.txn, .int .i64 v.op, .int .i64 v.wit, .string v.key, .bool v.want, .string v.exp, .bool v.got, .string v.obs, .int .i64 v.frm, .int .i64 v.to, .int .i64 (tot + 1)] 55)).drew).heap[w2.heap.size]? = some (.cells #[.int .i64 v.kind, .int .i64 v.time, .int .i64 v.txn, .int .i64 v.op, .int .i64 v.wit, .string v.key, .bool v.want, .string v.exp, .bool v.got, .string v.obs, .int .i64 v.frm, .int .i64 v.to, .int .i64 (tot + 1)] 55 (0, 0))) := hid (heap_alloc_new w2 (.cells #[.int .i64 v.kind, .int .i64 v.time, .int .i64 v.txn, .int .i64 v.op, .int .i64 v.wit, .string v.key, .bool v.want, .string v.exp, .bool v.got, .string v.obs, .int .i64 v.frm, .int .i64 v.to, .int .i64 (tot + 1)] 55))
    have hb3 := hid (hb2'.out.trans (Bel.of hal3 (Fit.le hB hb2'.out.size)))
    have hpt := hid (show w2.heap.size ≠ t from by have := blk_lt T2.out.ht; omega)
    clear hal3 T2 X2 hb2'
    generalize hw3 : (w2.alloc (.cells #[.int .i64 v.kind, .int .i64 v.time, .int .i64 v.txn, .int .i64 v.op, .int .i64 v.wit, .string v.key, .bool v.want, .string v.exp, .bool v.got, .string v.obs, .int .i64 v.frm, .int .i64 v.to, .int .i64 (tot + 1)] 55)).drew = w3 at *
    generalize w2.heap.size = bp at *
    clear hw3
    obtain ⟨a, cap, rfl, hla⟩ := T3.out.slice
    have Hla := hid hla
    clear hla
    have c0 : w3.cell? ⟨t, 0, none⟩ = some (.int .i64 lim) := (blk_cell T3.out.ht 0).trans rfl
    have c2 : w3.cell? ⟨t, 2, none⟩ = some (.slice a l.length cap) := (blk_cell T3.out.ht 2).trans rfl
    obtain ⟨n, hn⟩ : ∃ n, n = l.length := ⟨_, rfl⟩
    rw [← hn] at c2 hl
    have HN := hid hn
    clear hn
    go_upto_region 5 with fail
    go_quiet (fail)
    clear c0 c2
    have hq : Below w3.heap.size w3 (w3.drewN nq) := _root_.Go.Proofs.Ytgimpkbknaopcaa.Below.drewN (Below.refl _ _) _
    have T4 := hid (T3.out.below hq)
    have X4 := hid ((hq.block bp (blk_lt X3.out)).trans X3.out)
    have hb4 := hid (hb3.out.trans (Bel.of hq (Fit.le hB hb3.out.size)))
    clear hq T3 X3 hb3
    generalize w3.drewN nq = w4 at *
    by_cases hlt : (n : Int) < lim
    · have d1 : decide ((n : Int) < lim) = true := decide_eq_true hlt
      have hput : putA lim l (Pt.mk v (tot + 1)) = (upA (l ++ [(Pt.mk v (tot + 1))]).toArray l.length).toList := by unfold putA; rw [if_pos (by rw [← HN.out]; exact hlt)]
      have Hput := hid hput
      clear hput
      have p0 : w4.cell? ⟨bp, 0, none⟩ = some (.int .i64 v.kind) := (blk_cell X4.out 0).trans rfl
      have p1 : w4.cell? ⟨bp, 1, none⟩ = some (.int .i64 v.time) := (blk_cell X4.out 1).trans rfl
      have p2 : w4.cell? ⟨bp, 2, none⟩ = some (.int .i64 v.txn) := (blk_cell X4.out 2).trans rfl
      have p3 : w4.cell? ⟨bp, 3, none⟩ = some (.int .i64 v.op) := (blk_cell X4.out 3).trans rfl
      have p4 : w4.cell? ⟨bp, 4, none⟩ = some (.int .i64 v.wit) := (blk_cell X4.out 4).trans rfl
      have p5 : w4.cell? ⟨bp, 5, none⟩ = some (.string v.key) := (blk_cell X4.out 5).trans rfl
      have p6 : w4.cell? ⟨bp, 6, none⟩ = some (.bool v.want) := (blk_cell X4.out 6).trans rfl
      have p7 : w4.cell? ⟨bp, 7, none⟩ = some (.string v.exp) := (blk_cell X4.out 7).trans rfl
      have p8 : w4.cell? ⟨bp, 8, none⟩ = some (.bool v.got) := (blk_cell X4.out 8).trans rfl
      have p9 : w4.cell? ⟨bp, 9, none⟩ = some (.string v.obs) := (blk_cell X4.out 9).trans rfl
      have p10 : w4.cell? ⟨bp, 10, none⟩ = some (.int .i64 v.frm) := (blk_cell X4.out 10).trans rfl
      have p11 : w4.cell? ⟨bp, 11, none⟩ = some (.int .i64 v.to) := (blk_cell X4.out 11).trans rfl
      have p12 : w4.cell? ⟨bp, 12, none⟩ = some (.int .i64 (tot + 1)) := (blk_cell X4.out 12).trans rfl
      go_upto_region 6 with fail
      go_region_with ((go_at_call 24; refine (push_any B t lim (tot + 1) _ l (Pt.mk v (tot + 1)) _ (T4.out.below (Below.refl _ _).drew) (by have := HN.out; omega) (Fit.le hB hb4.out.size)).mono ?_; rintro e w5 ⟨rfl, g5, cap5, hT5, hb5⟩))
      all_goals
        have T5 := hid hT5
        have hb5' := hid (hb4.out.drew.trans hb5)
        clear hT5 hb5 p0 p1 p2 p3 p4 p5 p6 p7 p8 p9 p10 p11 p12 T4 X4 hb4
        go_simp
        go_wp2_with fail
        go_ret
        exact .inr ⟨hval, rfl, _, by rw [Hput.out]; exact T5.out, hb5'.out⟩
    · have d1 : decide ((n : Int) < lim) = false := decide_eq_false hlt
      by_cases hlim : 0 < lim
      · have d2 : decide (0 < lim) = true := decide_eq_true hlim
        obtain ⟨q, r, hqr⟩ : ∃ q r, l = q :: r := by
          cases hl9 : l with
          | nil => have := HN.out; rw [hl9] at this; simp at this; omega
          | cons q r => exact ⟨q, r, rfl⟩
        have hn1 : (0 : Int) < (n : Int) := by omega
        have hn1' : 0 < n := by omega
        obtain ⟨g, rfl⟩ : ∃ g, a = some ⟨g, 0, none⟩ := by
          rcases Hla.out with h | h
          · rw [h] at hqr; cases hqr
          · exact h
        have hput : putA lim l (Pt.mk v (tot + 1)) = (if behindB q (Pt.mk v (tot + 1)) = true then (siftDown (ltOf cfP) l.length 0 0 (l.set 0 (Pt.mk v (tot + 1))).toArray).toList else l) := by
          unfold putA
          rw [if_neg (by rw [← HN.out]; exact hlt), dif_pos (by rw [hqr]; simp)]
          subst hqr
          rfl
        have Hput := hid hput
        have hcell : ∀ j u, (encP q)[j]? = some u → w4.cell? ⟨g, j, none⟩ = some u := by
          intro j u hj
          have h1 := T4.out.own.cells (g := g) rfl j u (by rw [hqr, cellsP, List.getElem?_append_left (by rw [encP_length]; exact (List.getElem?_eq_some_iff.1 hj).1)]; exact hj)
          rwa [Addr.add_lit, Nat.zero_add] at h1
        have hgl : g < w4.heap.size := own_lt T4.out.own g rfl
        have htl4 := blk_lt T4.out.ht
        have hbl4 := blk_lt X4.out
        have c0 := fun n os => cell_grown (a := ⟨t, 0, none⟩) htl4 ((blk_cell T4.out.ht 0).trans rfl : w4.cell? ⟨t, 0, none⟩ = some (.int .i64 lim)) n os
        have c2 := fun m os => cell_grown (a := ⟨t, 2, none⟩) htl4 ((blk_cell T4.out.ht 2).trans (by rw [← HN.out]; rfl) : w4.cell? ⟨t, 2, none⟩ = some (.slice (some ⟨g, 0, none⟩) n cap)) m os
        have g0 := fun m os => cell_grown (a := ⟨g, 0, none⟩) hgl (hcell 0 (.int .i64 q.v.kind) rfl) m os
        have p0 := fun m os => cell_grown (a := ⟨bp, 0, none⟩) hbl4 ((blk_cell X4.out 0).trans rfl : w4.cell? ⟨bp, 0, none⟩ = some (.int .i64 v.kind)) m os
        have g1 := fun m os => cell_grown (a := ⟨g, 1, none⟩) hgl (hcell 1 (.int .i64 q.v.time) rfl) m os
        have p1 := fun m os => cell_grown (a := ⟨bp, 1, none⟩) hbl4 ((blk_cell X4.out 1).trans rfl : w4.cell? ⟨bp, 1, none⟩ = some (.int .i64 v.time)) m os
        have g2 := fun m os => cell_grown (a := ⟨g, 2, none⟩) hgl (hcell 2 (.int .i64 q.v.txn) rfl) m os
        have p2 := fun m os => cell_grown (a := ⟨bp, 2, none⟩) hbl4 ((blk_cell X4.out 2).trans rfl : w4.cell? ⟨bp, 2, none⟩ = some (.int .i64 v.txn)) m os
        have g3 := fun m os => cell_grown (a := ⟨g, 3, none⟩) hgl (hcell 3 (.int .i64 q.v.op) rfl) m os
        have p3 := fun m os => cell_grown (a := ⟨bp, 3, none⟩) hbl4 ((blk_cell X4.out 3).trans rfl : w4.cell? ⟨bp, 3, none⟩ = some (.int .i64 v.op)) m os
        have g4 := fun m os => cell_grown (a := ⟨g, 4, none⟩) hgl (hcell 4 (.int .i64 q.v.wit) rfl) m os
        have p4 := fun m os => cell_grown (a := ⟨bp, 4, none⟩) hbl4 ((blk_cell X4.out 4).trans rfl : w4.cell? ⟨bp, 4, none⟩ = some (.int .i64 v.wit)) m os
        have g5 := fun m os => cell_grown (a := ⟨g, 5, none⟩) hgl (hcell 5 (.string q.v.key) rfl) m os
        have p5 := fun m os => cell_grown (a := ⟨bp, 5, none⟩) hbl4 ((blk_cell X4.out 5).trans rfl : w4.cell? ⟨bp, 5, none⟩ = some (.string v.key)) m os
        have g6 := fun m os => cell_grown (a := ⟨g, 6, none⟩) hgl (hcell 6 (.bool q.v.want) rfl) m os
        have p6 := fun m os => cell_grown (a := ⟨bp, 6, none⟩) hbl4 ((blk_cell X4.out 6).trans rfl : w4.cell? ⟨bp, 6, none⟩ = some (.bool v.want)) m os
        have g7 := fun m os => cell_grown (a := ⟨g, 7, none⟩) hgl (hcell 7 (.string q.v.exp) rfl) m os
        have p7 := fun m os => cell_grown (a := ⟨bp, 7, none⟩) hbl4 ((blk_cell X4.out 7).trans rfl : w4.cell? ⟨bp, 7, none⟩ = some (.string v.exp)) m os
        have g8 := fun m os => cell_grown (a := ⟨g, 8, none⟩) hgl (hcell 8 (.bool q.v.got) rfl) m os
        have p8 := fun m os => cell_grown (a := ⟨bp, 8, none⟩) hbl4 ((blk_cell X4.out 8).trans rfl : w4.cell? ⟨bp, 8, none⟩ = some (.bool v.got)) m os
        have g9 := fun m os => cell_grown (a := ⟨g, 9, none⟩) hgl (hcell 9 (.string q.v.obs) rfl) m os
        have p9 := fun m os => cell_grown (a := ⟨bp, 9, none⟩) hbl4 ((blk_cell X4.out 9).trans rfl : w4.cell? ⟨bp, 9, none⟩ = some (.string v.obs)) m os
        have g10 := fun m os => cell_grown (a := ⟨g, 10, none⟩) hgl (hcell 10 (.int .i64 q.v.frm) rfl) m os
        have p10 := fun m os => cell_grown (a := ⟨bp, 10, none⟩) hbl4 ((blk_cell X4.out 10).trans rfl : w4.cell? ⟨bp, 10, none⟩ = some (.int .i64 v.frm)) m os
        have g11 := fun m os => cell_grown (a := ⟨g, 11, none⟩) hgl (hcell 11 (.int .i64 q.v.to) rfl) m os
        have p11 := fun m os => cell_grown (a := ⟨bp, 11, none⟩) hbl4 ((blk_cell X4.out 11).trans rfl : w4.cell? ⟨bp, 11, none⟩ = some (.int .i64 v.to)) m os
        have g12 := fun m os => cell_grown (a := ⟨g, 12, none⟩) hgl (hcell 12 (.int .i64 q.num) rfl) m os
        have p12 := fun m os => cell_grown (a := ⟨bp, 12, none⟩) hbl4 ((blk_cell X4.out 12).trans rfl : w4.cell? ⟨bp, 12, none⟩ = some (.int .i64 (tot + 1))) m os
        clear hput hcell
        go_upto_region 7 with fail
        have Hqr := hid hqr
        clear hqr
        cases hbeh : behindB q (Pt.mk v (tot + 1)) with
        | true =>
          have hc : ∀ W : World, Calls Try.prog 25 #[q.agg, (Pt.mk v (tot + 1)).agg] W fun e w' => e = .returned (.bool true) ∧ Laid W w' := fun W => by rw [← hbeh]; exact behind_any q (Pt.mk v (tot + 1)) W
          have HC := hid hc
          clear hc
          have mixed := mixedT
          go_quiet_grown (first | (go_at_call 25; refine Calls.grown_of (HC.out _)))
          have hL : Laid w4 (grow (w4.drewN nq) osq) := ⟨nq, osq, rfl⟩
          have T5 := hid (T4.out.below hL.below)
          have hb5 := hid (hb4.out.trans (Bel.of hL.below (Fit.le hB hb4.out.size)))
          have e0 := g0 nq osq
          have o0 := p0 nq osq
          have e1 := g1 nq osq
          have o1 := p1 nq osq
          have e2 := g2 nq osq
          have o2 := p2 nq osq
          have e3 := g3 nq osq
          have o3 := p3 nq osq
          have e4 := g4 nq osq
          have o4 := p4 nq osq
          have e5 := g5 nq osq
          have o5 := p5 nq osq
          have e6 := g6 nq osq
          have o6 := p6 nq osq
          have e7 := g7 nq osq
          have o7 := p7 nq osq
          have e8 := g8 nq osq
          have o8 := p8 nq osq
          have e9 := g9 nq osq
          have o9 := p9 nq osq
          have e10 := g10 nq osq
          have o10 := p10 nq osq
          have e11 := g11 nq osq
          have o11 := p11 nq osq
          have e12 := g12 nq osq
          have o12 := p12 nq osq
          have k0 := (blk_cell T5.out.ht 2).trans rfl
          clear g0 g1 g2 g3 g4 g5 g6 g7 g8 g9 g10 g11 g12 p0 p1 p2 p3 p4 p5 p6 p7 p8 p9 p10 p11 p12 c0 c2 HC hL T4 X4 hb4 htl4 hbl4 hgl
          generalize grow (w4.drewN nq) osq = w5 at *
          have k2 : w5.cell? ⟨t, 2, none⟩ = some (.slice (some ⟨g, 0, none⟩) n cap) := (blk_cell T5.out.ht 2).trans (by rw [← HN.out]; rfl)
          have fz : ∀ j, w5.frozen? ⟨g, j, none⟩ = false := by
            rcases T5.out.own.2 with ⟨hh, _⟩ | ⟨g0, cap0, cur, hv0, _, hg0, _⟩
            · cases hh
            · cases hv0
              exact fun j => blk_free hg0 j
          clear k0
          have f0 := fz 0
          have f1 := fz 1
          have f2 := fz 2
          have f3 := fz 3
          have f4 := fz 4
          have f5 := fz 5
          have f6 := fz 6
          have f7 := fz 7
          have f8 := fz 8
          have f9 := fz 9
          have f10 := fz 10
          have f11 := fz 11
          have f12 := fz 12
          clear fz
          obtain ⟨s1, s2⟩ := tp_set0 T5.out rfl Hqr.out (Pt.mk v (tot + 1)) (Fit.le hB hb5.out.size)
          have T6 := hid (s1.below (Below.refl _ _).drew)
          have hb6 := hid (hb5.out.trans s2).drew
          clear s1 s2
          simp only [encP, World.setCells, Nat.zero_add, Nat.reduceAdd] at T6 hb6
          go_upto_region 8 with fail
          go_region
          all_goals
            rw [if_pos hbeh] at Hput
            clear e0 o0 f0 e1 o1 f1 e2 o2 f2 e3 o3 f3 e4 o4 f4 e5 o5 f5 e6 o6 f6 e7 o7 f7 e8 o8 f8 e9 o9 f9 e10 o10 f10 e11 o11 f11 e12 o12 f12 k2
            go_wp2_with fail
            refine (fix_any B t lim (tot + 1) g cap ((Pt.mk v (tot + 1)) :: r) _ T6.out (by have h1 := HN.out; rw [Hqr.out] at h1; have h2 : ((Pt.mk v (tot + 1)) :: r).length = n := h1.symm; omega) (Fit.le hB hb6.out.size)).mono ?_
            rintro e w7 ⟨rfl, hT7, hb7⟩
            have T7 := hid hT7
            have hb7' := hid (hb6.out.trans hb7)
            clear hT7 hb7 T6 hb6 T5 hb5
            go_wp2_with fail
            go_ret
            exact .inr ⟨hval, rfl, _, by rw [Hput.out, Hqr.out]; exact T7.out, hb7'.out⟩
        | false =>
          have hc : ∀ W : World, Calls Try.prog 25 #[q.agg, (Pt.mk v (tot + 1)).agg] W fun e w' => e = .returned (.bool false) ∧ Laid W w' := fun W => by rw [← hbeh]; exact behind_any q (Pt.mk v (tot + 1)) W
          have HC := hid hc
          clear hc
          have mixed := mixedT
          go_quiet_grown (first | (go_at_call 25; refine Calls.grown_of (HC.out _)))
          have hL : Laid w4 (grow (w4.drewN nq) osq) := ⟨nq, osq, rfl⟩
          have T5 := hid (T4.out.below hL.below)
          have hb5 := hid (hb4.out.trans (Bel.of hL.below (Fit.le hB hb4.out.size)))
          clear g0 g1 g2 g3 g4 g5 g6 g7 g8 g9 g10 g11 g12 p0 p1 p2 p3 p4 p5 p6 p7 p8 p9 p10 p11 p12 c0 c2 HC hL T4 X4 hb4 htl4 hbl4 hgl
          generalize grow (w4.drewN nq) osq = w5 at *
          rw [if_neg (by rw [hbeh]; simp)] at Hput
          go_wp2_with fail
          go_ret
          exact .inr ⟨hval, rfl, _, by rw [Hput.out]; exact T5.out, hb5.out⟩
      · have d2 : decide (0 < lim) = false := decide_eq_false hlim
        have hput : putA lim l (Pt.mk v (tot + 1)) = l := by
          unfold putA
          rw [if_neg (by rw [← HN.out]; exact hlt), dif_neg (by have := HN.out; omega)]
        have Hput := hid hput
        clear hput
        have c0 : w4.cell? ⟨t, 0, none⟩ = some (.int .i64 lim) := (blk_cell T4.out.ht 0).trans rfl
        go_upto_region 7 with fail
        go_quiet (fail)
        have hq : Below w4.heap.size w4 (w4.drewN nq) := _root_.Go.Proofs.Ytgimpkbknaopcaa.Below.drewN (Below.refl _ _) _
        have T5 := hid (T4.out.below hq)
        have hb5 := hid (hb4.out.trans (Bel.of hq (Fit.le hB hb4.out.size)))
        clear hq c0 T4 hb4
        generalize w4.drewN nq = w5 at *
        go_wp2_with fail
        go_ret
        exact .inr ⟨hval, rfl, _, by rw [Hput.out]; exact T5.out, hb5.out⟩
end Go.Proofs.Ytgimpkbknaopcaa
