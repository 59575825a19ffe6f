/- A new device, without faults and without an image. No statement is proved here. -/
import Derived.Test.YtkhejipcclpknaaSH
set_option linter.unusedVariables false
set_option linter.unusedSimpArgs false
namespace Go.Proofs.Ytkhejipcclpknaa
open Go.RowKit

set_option maxRecDepth 100000 in
theorem clone_nil (w : World) : Calls Try.prog 31 #[.slice none 0 0] w fun e w' => e = .returned (.slice none 0 0) ∧ w' = w := by
  have hnil : ∀ W, (binOp .eql 61 (.slice none 0 0) (.slice none 0 0)).run Try.prog W = .ok (.bool true) W := fun _ => rfl
  go_enter Try.func31, Try.ntmps31
  go_wp2_with fail
  go_ret
  exact ⟨rfl, rfl⟩
/-- Bytes that came in. -/
def BytesIn (w : World) (a : Option Addr) (l : List Int) : Prop := l ≠ [] → ∃ b o, a = some ⟨b, o, none⟩ ∧ b < w.heap.size ∧ BytesAt w b o l
theorem BytesIn.below {w w' : World} {a : Option Addr} {l : List Int} (h : BytesIn w a l) (hb : Below w.heap.size w w') : BytesIn w' a l := by
  intro hn
  obtain ⟨b, o, rfl, hl, hc⟩ := h hn
  exact ⟨b, o, rfl, Nat.lt_of_lt_of_le hl hb.size, fun i hi => (hb.cell (p := ⟨b, o + i, none⟩) hl).trans (hc i hi)⟩
/-- append of bytes onto an empty slice that is not nil. -/
theorem app_onto {w : World} {q : Nat} (hq : w.heap[q]? = some (.cells #[] 5 (0, 0))) (ty : TypeId) {a : Option Addr} {l : List Int} (m c : Nat) (hm : l.length = m) (hc : BytesIn w a l) (hl : m ≤ 100000000) (hqw : ∀ b o, a = some ⟨b, o, none⟩ → l ≠ [] → True) :
    ∃ g ic w', (Builtin.append_ #[22, 22] ty #[.slice (some ⟨q, 0, none⟩) 0 0, .slice a m c]).run Try.prog w = .ok (.slice (some ⟨g, 0, none⟩) m ic) w' ∧ w'.ownsRow 0 5 1 (.slice (some ⟨g, 0, none⟩) m ic) m (cellsB l) ∧ w.grownBy w' (some q) ∧ (g = q ∨ g = w.heap.size) := by
  obtain ⟨ti, hi, hz0, hz1, hz2⟩ := info_parts infoB
  have hown : w.ownsRow 0 5 1 (.slice (some ⟨q, 0, none⟩) 0 0) 0 [] := ⟨rfl, .inr ⟨q, 0, #[], rfl, Nat.zero_le _, hq, Nat.le_refl _, by unfold maxLen; omega, rfl, rfl⟩⟩
  have fin : ∀ (v' : Value) (w' : World), w'.ownsRow 0 5 1 v' m (cellsB l) → (v'.ownBlock = some q ∨ v'.ownBlock = some w.heap.size) → ∃ g ic, v' = .slice (some ⟨g, 0, none⟩) m ic ∧ (g = q ∨ g = w.heap.size) := by
    intro v' w' ho hb
    rcases ho.2 with ⟨rfl, _⟩ | ⟨g, cap, cur, rfl, _⟩
    · rcases hb with h | h <;> cases h
    · refine ⟨g, cap, rfl, ?_⟩
      rcases hb with h | h
      · cases h
        exact .inl rfl
      · cases h
        exact .inr rfl
  by_cases hne : l = []
  · subst hne
    subst hm
    cases a with
    | none =>
      have hrun := run_append_zero (P := Try.prog) w 22 ty 5 1 Try.underlying22 sizeB (some ⟨q, 0, none⟩) none 0 0 c (Nat.le_refl _)
      exact ⟨q, 0, w, hrun, hown, ⟨rfl, rfl, rfl, Nat.le_refl _, fun _ _ _ => rfl⟩, .inl rfl⟩
    | some a =>
      have hrun := run_append_zero (P := Try.prog) w 22 ty 5 1 Try.underlying22 sizeB (some ⟨q, 0, none⟩) (some a) 0 0 c (Nat.le_refl _)
      exact ⟨q, 0, w, hrun, hown, ⟨rfl, rfl, rfl, Nat.le_refl _, fun _ _ _ => rfl⟩, .inl rfl⟩
  · obtain ⟨b, o, rfl, hlt, hcc⟩ := hc hne
    obtain ⟨v', w', h1, h2, h3, h4⟩ := run_append_own3 w 0 22 ty 5 ti (.int .u8 0) 1 1 Try.underlying22 hi hz0 hz1 hz2 rfl _ _ _ hown ⟨b, o, none⟩ m c (cellsB l) (by rw [cellsB_length, hm, Nat.mul_one]) (fun j u hj => by
      have hj' : j < l.length := by
        have := (List.getElem?_eq_some_iff.1 hj).1
        rwa [cellsB_length] at this
      rw [cellsB_get l j hj'] at hj
      rw [Addr.add_lit, hcc j hj']
      exact hj) (cellsB_one l) (by unfold maxLen; omega) (by omega) (Nat.zero_le _)
    rw [Nat.zero_add, List.nil_append] at h2
    obtain ⟨g, ic, rfl, hg⟩ := fin v' w' h2 (h4.imp id fun h => h.1)
    exact ⟨g, ic, w', h1, h2, h3, hg⟩
/-- A device that was made. -/
theorem dev_made {w : World} {g ib ic mb U S : Nat} {l : List Int} (hU0 : 16 ≤ U) (hU1 : U ≤ 1024) (hS : S ≤ 4096) (hl : l.length ≤ 4194304)
    (hg : w.heap[g]? = some (.cells #[.int .i64 U, .int .i64 S, .slice (some ⟨ib, 0, none⟩) l.length ic, .slice none 0 0, .slice none 0 0, .map (some mb), .int .i64 0, .int .i64 0, .int .i64 0, .int .i64 0, .bool false] 78 (0, 0)))
    (hi : w.ownsRow 0 5 1 (.slice (some ⟨ib, 0, none⟩) l.length ic) l.length (cellsB l)) (hm : w.heap[mb]? = some (.map #[] 0)) :
    DvM ((w.alloc (.cells (madeCells #[.int .u8 0] (U * S)) 5)).setCell ⟨g, 3, none⟩ (.slice (some ⟨w.heap.size, 0, none⟩) (U * S) (U * S))) ⟨g, ib, ic, w.heap.size, mb, .slice none 0 0⟩ ⟨U, S, l, List.replicate (U * S) 0, [], fun _ _ => 0, 0, 0, 0, 0, false⟩ := by
  have hal := (Below.refl _ w).alloc (Nat.le_refl _) (.cells (madeCells #[.int .u8 0] (U * S)) 5)
  rcases hi.2 with ⟨h0, _⟩ | ⟨ib', ic', cur, he, _, hib, hle, hcm, hcs, htk⟩
  · cases h0
  cases he
  have n1 : g ≠ ib := fun e => by rw [e, hib] at hg; cases hg
  have n2 : g ≠ w.heap.size := fun e => by have := blk_lt hg; omega
  have n3 : g ≠ mb := fun e => by rw [e, hm] at hg; cases hg
  have n4 : ib ≠ w.heap.size := fun e => by have := blk_lt hib; omega
  have n5 : ib ≠ mb := fun e => by rw [e, hm] at hib; cases hib
  have n6 : w.heap.size ≠ mb := fun e => by have := blk_lt hm; omega
  have hne : ∀ j, j ≠ g → ((w.alloc (.cells (madeCells #[.int .u8 0] (U * S)) 5)).setCell ⟨g, 3, none⟩ (.slice (some ⟨w.heap.size, 0, none⟩) (U * S) (U * S))).heap[j]? = (w.alloc (.cells (madeCells #[.int .u8 0] (U * S)) 5)).heap[j]? := fun j hj => Below.heap_setCell _ ⟨g, 3, none⟩ _ j hj
  refine ⟨?_, ⟨cur, (hne _ n1.symm).trans ((hal.block ib (blk_lt hib)).trans hib), hle, hcm, by rw [hcs, Nat.mul_one], fun i hi => ?_⟩, ⟨_, (hne _ n2.symm).trans (heap_alloc_new w _), ?_⟩, ?_, ?_, ⟨n1, n2, n3, n4, n5, n6, by simp [Value.ownBlock], by simp [Value.ownBlock], by simp [Value.ownBlock], by simp [Value.ownBlock]⟩, hU0, hU1, hS, hl, by simp, by simp, fun f hf => by simp at hf⟩
  · exact heap_setCell_same _ g 3 _ _ _ ((hal.block g (blk_lt hg)).trans hg)
  · have h2 : (cur.toList.take (l.length * 1))[i]? = some (.int .u8 l[i]) := by rw [htk, cellsB_get l i hi]
    rw [List.getElem?_take, if_pos (by simpa using hi), Array.getElem?_toList] at h2
    exact h2
  · rw [toList_madeCells_one]
    simp [cellsB]
  · exact pmap_made ((hne _ n3.symm).trans ((hal.block mb (blk_lt hm)).trans hm))
  · exact World.ownsRow_nil _ _ _ _
theorem dev_at (w : World) (o : Obj) {g : Nat} (h : g = w.heap.size) : (w.alloc o).heap[g]? = some o := by rw [h]; exact heap_alloc_new w o
def DevNewPost (w : World) (U S : Nat) (l : List Int) (e : Ending) (w' : World) : Prop := ∃ d, e = .returned (.tuple #[.pointer (some ⟨d.g, 0, none⟩), .int .i64 0]) ∧ DvM w' d ⟨U, S, l, List.replicate (U * S) 0, [], fun _ _ => 0, 0, 0, 0, 0, false⟩ ∧ Below w.heap.size w w' ∧ ∀ k, d.S k → w.heap.size ≤ k
set_option maxHeartbeats 4000000 in
set_option maxRecDepth 100000 in
theorem new_plain {w : World} {a : Option Addr} {l : List Int} (U S : Nat) (hU0 : 16 ≤ U) (hU1 : U ≤ 1024) (hS : S ≤ 4096) (hl : l.length ≤ 4194304) (hin : BytesIn w a l) (c : Nat) :
    Calls Try.prog 11 #[.agg #[.int .i64 U, .int .i64 S], .slice a l.length c, .slice none 0 0, .slice none 0 0] w (DevNewPost w U S l) := by
  obtain ⟨L, hL⟩ : ∃ L, L = l.length := ⟨_, rfl⟩
  have hUS : U * S ≤ 4194304 := Nat.le_trans (Nat.mul_le_mul hU1 hS) (by omega)
  obtain ⟨T, hT⟩ : ∃ T, T = U * S := ⟨_, rfl⟩
  have hm1 : (U : Int) * (S : Int) = (T : Int) := by rw [hT, Int.natCast_mul]
  have hw1 : IntKind.i64.wrap (T : Int) = (T : Int) := wrap_id (by omega) (by omega)
  have hw2 : ¬ (T : Int) < 0 := by omega
  have hal0 := (Below.refl _ w).alloc (Nat.le_refl _) (.cells #[.int .i64 U, .int .i64 S] 29)
  obtain ⟨w1, hw⟩ : ∃ w1, w.alloc (.cells #[.int .i64 U, .int .i64 S] 29) = w1 := ⟨_, rfl⟩
  obtain ⟨tb, htb⟩ : ∃ tb, tb = w.heap.size := ⟨_, rfl⟩
  have T1 : w1.heap[tb]? = some (.cells #[.int .i64 U, .int .i64 S] 29 (0, 0)) := by rw [← hw, htb]; exact heap_alloc_new w _
  rw [hw] at hal0
  have HI1 := hin.below hal0
  obtain ⟨q, hq⟩ : ∃ q, q = w1.heap.size := ⟨_, rfl⟩
  have b1 := ((Below.refl _ w1).alloc (Nat.le_refl _) (.cells #[] 5)).drew
  have b2 := (((Below.refl _ w1).alloc (Nat.le_refl _) (.cells #[] 5)).alloc (Nat.le_trans (Nat.le_refl _) ((Below.refl _ w1).alloc (Nat.le_refl _) (.cells #[] 5)).size) (.map #[] 0)).drew
  have b3 := (((Below.refl _ w1).alloc (Nat.le_refl _) (.map #[] 0)).alloc (Nat.le_trans (Nat.le_refl _) ((Below.refl _ w1).alloc (Nat.le_refl _) (.map #[] 0)).size) (.cells #[] 5)).drew
  have q1 : (w1.alloc (.cells #[] 5)).drew.heap[q]? = some (.cells #[] 5 (0, 0)) := by rw [hq]; exact heap_alloc_new w1 _
  have q2 : ((w1.alloc (.cells #[] 5)).alloc (.map #[] 0)).drew.heap[q]? = some (.cells #[] 5 (0, 0)) := by
    show ((w1.alloc (.cells #[] 5)).alloc (.map #[] 0)).heap[q]? = _
    rw [Below.heap_alloc _ _ q (by rw [hq]; simp)]
    exact q1
  have q3 : ((w1.alloc (.map #[] 0)).alloc (.cells #[] 5)).drew.heap[q + 1]? = some (.cells #[] 5 (0, 0)) := by
    have := heap_alloc_new (w1.alloc (.map #[] 0)) (.cells #[] 5)
    rw [World.size_alloc, ← hq] at this
    exact this
  have m2 : ((w1.alloc (.cells #[] 5)).alloc (.map #[] 0)).drew.heap[q + 1]? = some (.map #[] 0) := by
    have := heap_alloc_new (w1.alloc (.cells #[] 5)) (.map #[] 0)
    rw [World.size_alloc, ← hq] at this
    exact this
  have m3 : ((w1.alloc (.map #[] 0)).alloc (.cells #[] 5)).drew.heap[q]? = some (.map #[] 0) := by
    show ((w1.alloc (.map #[] 0)).alloc (.cells #[] 5)).heap[q]? = _
    rw [Below.heap_alloc _ _ q (by rw [hq]; simp), hq]
    exact heap_alloc_new w1 _
  obtain ⟨g1, c1, u1, r1, o1, k1, e1⟩ := app_onto q1 22 L c hL.symm (HI1.below b1) (by omega) (fun _ _ _ _ => trivial)
  obtain ⟨g2, c2, u2, r2, o2, k2, e2⟩ := app_onto q2 22 L c hL.symm (HI1.below b2) (by omega) (fun _ _ _ _ => trivial)
  obtain ⟨g3, c3, u3, r3, o3, k3, e3⟩ := app_onto q3 22 L c hL.symm (HI1.below b3) (by omega) (fun _ _ _ _ => trivial)
  have x0 : w1.cell? ⟨tb, 0, none⟩ = some (.int .i64 U) := (blk_cell T1 0).trans rfl
  have x1 : w1.cell? ⟨tb, 1, none⟩ = some (.int .i64 S) := (blk_cell T1 1).trans rfl
  have htl : tb < w1.heap.size := blk_lt T1
  have tk : ∀ {W W' : World} {row : Option Nat}, Below w1.heap.size w1 W → W.grownBy W' row → (∀ k, row = some k → w1.heap.size ≤ k) → Below w1.heap.size w1 W' := fun h hg hr => h.grown hg h.size hr
  have B1 := tk b1 k1 (fun k e => by cases e; omega)
  have B2 := tk b2 k2 (fun k e => by cases e; omega)
  have B3 := tk b3 k3 (fun k e => by cases e; omega)
  have y10 := (B1.cell (p := ⟨tb, 0, none⟩) htl).trans x0
  have y11 := (B1.cell (p := ⟨tb, 1, none⟩) htl).trans x1
  have y20 := (B2.cell (p := ⟨tb, 0, none⟩) htl).trans x0
  have y21 := (B2.cell (p := ⟨tb, 1, none⟩) htl).trans x1
  have y30 := (B3.cell (p := ⟨tb, 0, none⟩) htl).trans x0
  have y31 := (B3.cell (p := ⟨tb, 1, none⟩) htl).trans x1
  have hLb : ¬ (4194304 : Int) < (L : Int) := by omega
  have K1 := hid k1
  have K2 := hid k2
  have K3 := hid k3
  have O1 := hid o1
  have O2 := hid o2
  have O3 := hid o3
  have E1 := hid e1
  have E2 := hid e2
  have E3 := hid e3
  have M2 := hid m2
  have M3 := hid m3
  have HB1 := hid B1
  have HB2 := hid B2
  have HB3 := hid B3
  have HT := hid hT
  have HLL := hid hL
  have HQ := hid hq
  have HTB := hid htb
  have HW := hid hw
  have HAL := hid hal0
  have HTL := hid T1
  have HL4 := hid hl
  have HMK := hid (fun (u : World) => (show (Instr.makeSlice 22 (.int .i64 (T : Int)) (.int .i64 (T : Int))).run Try.prog u = .ok (.slice (some ⟨u.heap.size, 0, none⟩) T T) (u.alloc (.cells (madeCells #[.int .u8 0] T) 5)) by
    obtain ⟨ti, hi, hz0, hz1, hz2⟩ := info_parts infoB
    have h := run_make (P := Try.prog) u 22 5 ti _ Try.underlying22 hi hz0 .i64 .i64 (T : Int) (T : Int) (by omega) (by omega) (by rw [hz2]; omega) (by omega)
    rw [hz1] at h
    simpa [Value.cells] using h))
  rw [← hL]
  rw [hq] at r1 r2 r3
  have R1 := hid (fun (W : World) (v : Value) (h : W = (w1.alloc (.cells #[] 5)).drew) (hv : v = .slice (some ⟨w1.heap.size, 0, none⟩) 0 0) => (show (Builtin.append_ #[22, 22] 22 #[v, .slice a L c]).run Try.prog W = .ok (.slice (some ⟨g1, 0, none⟩) L c1) u1 from by rw [h, hv]; exact r1))
  have R2 := hid (fun (W : World) (v : Value) (h : W = ((w1.alloc (.cells #[] 5)).alloc (.map #[] 0)).drew) (hv : v = .slice (some ⟨w1.heap.size, 0, none⟩) 0 0) => (show (Builtin.append_ #[22, 22] 22 #[v, .slice a L c]).run Try.prog W = .ok (.slice (some ⟨g2, 0, none⟩) L c2) u2 from by rw [h, hv]; exact r2))
  have R3 := hid (fun (W : World) (v : Value) (h : W = ((w1.alloc (.map #[] 0)).alloc (.cells #[] 5)).drew) (hv : v = .slice (some ⟨w1.heap.size + 1, 0, none⟩) 0 0) => (show (Builtin.append_ #[22, 22] 22 #[v, .slice a L c]).run Try.prog W = .ok (.slice (some ⟨g3, 0, none⟩) L c3) u3 from by rw [h, hv]; exact r3))
  clear r1 r2 r3
  clear k1 k2 k3 o1 o2 o3 e1 e2 e3 m2 m3 q1 q2 q3 b1 b2 b3 B1 B2 B3 hT hL HI1 hin hal0 tk T1 hl hUS hw htb hq
  have hmm := @run_makeMap Try.prog
  go_enter Try.func11, Try.ntmps11
  go_upto_region 1 with fail
  rw [HW.out]
  rw [← HTB.out]
  go_upto_region 15 with fail
  refine wp_loop_rounds 1 ?_
  rw [rounds_succ]
  go_upto_region 15 with fail
  go_region_held3 (fun W : World => W.cell? ⟨tb, 0, none⟩ = some (.int .i64 U) ∧ W.cell? ⟨tb, 1, none⟩ = some (.int .i64 S)) (go_keep) (first | (go_at_call 31; refine (clone_nil _).mono ?_; rintro e w9 ⟨rfl, h9⟩; rw [h9]; clear h9 w9) | (refine step_append_run rfl (.tmp 61) (.tmp 62) 22 22 rfl _ _ rfl rfl (R1.out _ _ (by with_reducible rfl) (by rfl)) ?_) | (refine step_append_run rfl (.tmp 61) (.tmp 62) 22 22 rfl _ _ rfl rfl (R2.out _ _ (by with_reducible rfl) (by rfl)) ?_) | (refine step_append_run rfl (.tmp 61) (.tmp 62) 22 22 rfl _ _ rfl rfl (R3.out _ _ (by with_reducible rfl) (by rfl)) ?_))
  all_goals go_upto_region 16 with fail
  all_goals clear x0 x1 y10 y11 y20 y21 y30 y31 hmm htl
  all_goals first
      | (obtain ⟨W, hW⟩ : ∃ W, (u1.alloc (.map #[] 0)).alloc (.cells #[.int .i64 U, .int .i64 S, .slice (some ⟨g1, 0, none⟩) L c1, .slice none 0 0, .slice none 0 0, .map (some u1.heap.size), .int .i64 0, .int .i64 0, .int .i64 0, .int .i64 0, .bool false] 78) = W := ⟨_, rfl⟩
         obtain ⟨g, hg⟩ : ∃ g, g = u1.heap.size + 1 := ⟨_, rfl⟩
         obtain ⟨mb, hmb⟩ : ∃ mb, mb = u1.heap.size := ⟨_, rfl⟩
         have HG : Hid (W.heap[g]? = some (.cells #[.int .i64 U, .int .i64 S, .slice (some ⟨g1, 0, none⟩) L c1, .slice none 0 0, .slice none 0 0, .map (some mb), .int .i64 0, .int .i64 0, .int .i64 0, .int .i64 0, .bool false] 78 (0, 0))) := hid (by rw [← hW, hg, hmb]; exact dev_at _ _ (by first | rfl | simp))
         have BW : Hid (Below w1.heap.size w1 W) := hid (by rw [← hW]; exact (HB1.out.alloc HB1.out.size _).alloc (HB1.out.alloc HB1.out.size (.map #[] 0)).size _)
         have OI : Hid (W.ownsRow 0 5 1 (.slice (some ⟨g1, 0, none⟩) L c1) L (cellsB l)) := hid (by rw [← hW]; exact (O1.out.alloc _).alloc _)
         have OM : Hid (W.heap[mb]? = some (.map #[] 0)) := hid (by rw [← hW, hmb]; exact (Below.heap_alloc _ _ u1.heap.size (by simp)).trans (heap_alloc_new u1 _))
         have NN : Hid (w1.heap.size ≤ g ∧ w1.heap.size ≤ g1 ∧ w1.heap.size ≤ mb) := hid ⟨by rw [hg]; have := HB1.out.size; omega, by rcases E1.out with e | e; (rw [e, HQ.out]; exact Nat.le_refl _); (rw [e]; show _ ≤ (w1.alloc _).heap.size; simp), by rw [hmb]; have := HB1.out.size; omega⟩
         rw [hW]
         first | rw [← hg] | skip
         clear hW hg hmb
         obtain ⟨ib, hib⟩ : ∃ ib, ib = g1 := ⟨_, rfl⟩
         obtain ⟨ic, hic⟩ : ∃ ic, ic = c1 := ⟨_, rfl⟩
         rw [← hib] at HG OI NN
         rw [← hic] at HG OI
         clear hib hic)
      | (obtain ⟨W, hW⟩ : ∃ W, (u2).alloc (.cells #[.int .i64 U, .int .i64 S, .slice (some ⟨g2, 0, none⟩) L c2, .slice none 0 0, .slice none 0 0, .map (some (w1.heap.size + 1)), .int .i64 0, .int .i64 0, .int .i64 0, .int .i64 0, .bool false] 78) = W := ⟨_, rfl⟩
         obtain ⟨g, hg⟩ : ∃ g, g = u2.heap.size := ⟨_, rfl⟩
         obtain ⟨mb, hmb⟩ : ∃ mb, mb = w1.heap.size + 1 := ⟨_, rfl⟩
         have HG : Hid (W.heap[g]? = some (.cells #[.int .i64 U, .int .i64 S, .slice (some ⟨g2, 0, none⟩) L c2, .slice none 0 0, .slice none 0 0, .map (some mb), .int .i64 0, .int .i64 0, .int .i64 0, .int .i64 0, .bool false] 78 (0, 0))) := hid (by rw [← hW, hg, hmb]; exact dev_at _ _ (by first | rfl | simp))
         have BW : Hid (Below w1.heap.size w1 W) := hid (by rw [← hW]; exact HB2.out.alloc HB2.out.size _)
         have OI : Hid (W.ownsRow 0 5 1 (.slice (some ⟨g2, 0, none⟩) L c2) L (cellsB l)) := hid (by rw [← hW]; exact O2.out.alloc _)
         have OM : Hid (W.heap[mb]? = some (.map #[] 0)) := hid (by rw [← hW, hmb]; exact (Below.heap_alloc _ _ _ (Nat.lt_of_lt_of_le (by show w1.heap.size + 1 < ((w1.alloc _).alloc _).heap.size; simp) K2.out.size)).trans ((K2.out.block _ (by show w1.heap.size + 1 < ((w1.alloc _).alloc _).heap.size; simp) (by rw [HQ.out]; simp)).trans (by have := M2.out; rw [HQ.out] at this; exact this)))
         have NN : Hid (w1.heap.size ≤ g ∧ w1.heap.size ≤ g2 ∧ w1.heap.size ≤ mb) := hid ⟨by rw [hg]; have := HB2.out.size; omega, by rcases E2.out with e | e; (rw [e, HQ.out]; exact Nat.le_refl _); (rw [e]; show _ ≤ ((w1.alloc _).alloc _).heap.size; simp; omega), by rw [hmb]; omega⟩
         rw [hW]
         first | rw [← hg] | skip
         clear hW hg hmb
         obtain ⟨ib, hib⟩ : ∃ ib, ib = g2 := ⟨_, rfl⟩
         obtain ⟨ic, hic⟩ : ∃ ic, ic = c2 := ⟨_, rfl⟩
         rw [← hib] at HG OI NN
         rw [← hic] at HG OI
         clear hib hic)
      | (obtain ⟨W, hW⟩ : ∃ W, (u3).alloc (.cells #[.int .i64 U, .int .i64 S, .slice (some ⟨g3, 0, none⟩) L c3, .slice none 0 0, .slice none 0 0, .map (some w1.heap.size), .int .i64 0, .int .i64 0, .int .i64 0, .int .i64 0, .bool false] 78) = W := ⟨_, rfl⟩
         obtain ⟨g, hg⟩ : ∃ g, g = u3.heap.size := ⟨_, rfl⟩
         obtain ⟨mb, hmb⟩ : ∃ mb, mb = w1.heap.size := ⟨_, rfl⟩
         have HG : Hid (W.heap[g]? = some (.cells #[.int .i64 U, .int .i64 S, .slice (some ⟨g3, 0, none⟩) L c3, .slice none 0 0, .slice none 0 0, .map (some mb), .int .i64 0, .int .i64 0, .int .i64 0, .int .i64 0, .bool false] 78 (0, 0))) := hid (by rw [← hW, hg, hmb]; exact dev_at _ _ (by first | rfl | simp))
         have BW : Hid (Below w1.heap.size w1 W) := hid (by rw [← hW]; exact HB3.out.alloc HB3.out.size _)
         have OI : Hid (W.ownsRow 0 5 1 (.slice (some ⟨g3, 0, none⟩) L c3) L (cellsB l)) := hid (by rw [← hW]; exact O3.out.alloc _)
         have OM : Hid (W.heap[mb]? = some (.map #[] 0)) := hid (by rw [← hW, hmb]; exact (Below.heap_alloc _ _ _ (Nat.lt_of_lt_of_le (by show w1.heap.size < ((w1.alloc _).alloc _).heap.size; simp; omega) K3.out.size)).trans ((K3.out.block _ (by show w1.heap.size < ((w1.alloc _).alloc _).heap.size; simp; omega) (by rw [HQ.out]; simp)).trans (by have := M3.out; rw [HQ.out] at this; exact this)))
         have NN : Hid (w1.heap.size ≤ g ∧ w1.heap.size ≤ g3 ∧ w1.heap.size ≤ mb) := hid ⟨by rw [hg]; have := HB3.out.size; omega, by rcases E3.out with e | e; (rw [e, HQ.out]; omega); (rw [e]; show _ ≤ ((w1.alloc _).alloc _).heap.size; simp; omega), by rw [hmb]; omega⟩
         rw [hW]
         first | rw [← hg] | skip
         clear hW hg hmb
         obtain ⟨ib, hib⟩ : ∃ ib, ib = g3 := ⟨_, rfl⟩
         obtain ⟨ic, hic⟩ : ∃ ic, ic = c3 := ⟨_, rfl⟩
         rw [← hib] at HG OI NN
         rw [← hic] at HG OI
         clear hib hic)
  all_goals have HGT := hid (Nat.lt_of_lt_of_le (blk_lt HTL.out) BW.out.size)
  all_goals have x0 : W.cell? ⟨tb, 0, none⟩ = some (.int .i64 U) := (BW.out.cell (p := ⟨tb, 0, none⟩) (blk_lt HTL.out)).trans ((blk_cell HTL.out 0).trans rfl)
  all_goals have x1 : W.cell? ⟨tb, 1, none⟩ = some (.int .i64 S) := (BW.out.cell (p := ⟨tb, 1, none⟩) (blk_lt HTL.out)).trans ((blk_cell HTL.out 1).trans rfl)
  all_goals have hal := (Below.refl _ W).alloc (Nat.le_refl _) (.cells (madeCells #[.int .u8 0] T) 5)
  all_goals have HG2 := hid ((hal.block g (blk_lt HG.out)).trans HG.out)
  all_goals have g3 : (W.alloc (.cells (madeCells #[.int .u8 0] T) 5)).cell? ⟨g, 3, none⟩ = some (.slice none 0 0) := (blk_cell HG2.out 3).trans rfl
  all_goals have f3 := blk_free HG2.out 3
  all_goals have hmk := HMK.out W
  all_goals have HAL2 := hid hal
  all_goals have HDV := hid (dev_made (w := W) (g := g) (ib := ib) (ic := ic) (mb := mb) hU0 hU1 hS HL4.out (by rw [← HLL.out]; exact HG.out) (by rw [← HLL.out]; exact OI.out) OM.out)
  all_goals rw [← HT.out] at HDV
  all_goals clear hal
  all_goals go_upto_region 17 with fail
  all_goals clear g3 f3 hmk x0 x1
  all_goals have HBF := hid ((BW.out.trans (HAL2.out.mono BW.out.size)).setCell (p := ⟨g, 3, none⟩) NN.out.1 (.slice (some ⟨W.heap.size, 0, none⟩) T T))
  all_goals obtain ⟨sb, hsb⟩ : ∃ sb, sb = W.heap.size := ⟨_, rfl⟩
  all_goals have hsw : w1.heap.size ≤ sb := by rw [hsb]; exact BW.out.size
  all_goals rw [← hsb] at HDV HBF ⊢
  all_goals obtain ⟨W2, hW2⟩ : ∃ W2, (W.alloc (.cells (madeCells #[.int .u8 0] T) 5)).setCell ⟨g, 3, none⟩ (.slice (some ⟨sb, 0, none⟩) T T) = W2 := ⟨_, rfl⟩
  all_goals rw [hW2] at HDV HBF ⊢
  all_goals clear hW2
  all_goals have HSB := hid hsb
  all_goals have HSW := hid hsw
  all_goals clear hsb hsw
  all_goals have d3 : W2.cell? ⟨g, 3, none⟩ = some (.slice (some ⟨sb, 0, none⟩) T T) := (HDV.out.cell 3).trans (by show some (Value.slice (some ⟨sb, 0, none⟩) (U * S) (U * S)) = _; rw [← HT.out])
  all_goals have hcp := run_copy_zero (P := Try.prog) W2 22 22 3 5 (some ⟨sb, 0, none⟩) none T T 0 0 Try.underlying22 (by rw [sizeB]; rfl) (by omega)
  all_goals go_wp2_with (at_builtin; refine wpList_copy_run _ rfl (.tmp 81) (.tmp 82) 22 22 rfl _ _ rfl rfl hcp ?_)
  all_goals go_ret2
  all_goals refine ⟨⟨g, ib, ic, sb, mb, .slice none 0 0⟩, rfl, ?_, HAL.out.trans (HBF.out.mono HAL.out.size), ?_⟩
  all_goals first
    | (rw [← HT.out]; exact HDV.out)
    | (rintro k (rfl | rfl | rfl | rfl | hk)
       · exact Nat.le_trans HAL.out.size NN.out.1
       · exact Nat.le_trans HAL.out.size NN.out.2.1
       · exact Nat.le_trans HAL.out.size HSW.out
       · exact Nat.le_trans HAL.out.size NN.out.2.2
       · cases hk)
end Go.Proofs.Ytkhejipcclpknaa
