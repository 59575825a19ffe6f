/- Add of a graph. No statement is proved here. -/
import Derived.Test.YtbbfbkoanbdghaaGX
set_option linter.unusedVariables false
set_option linter.unusedSimpArgs false
namespace Go.Proofs.Ytbbfbkoanbdghaa
open Go.RowKit Go.Shelf Go.Lib
open Go.Sort hiding Below

theorem app_edge (w : World) (ty : TypeId) (v : Value) (l : List E) (x : E) (h : OwnE w v l) (r : Nat) (hr : w.heap[r]? = some (.cells x.cs.toArray 29 (0, 0))) (hb : l.length ≤ 70000) :
    ∃ v' w', (Builtin.append_ #[30, 30] ty #[v, .slice (some ⟨r, 0, none⟩) 1 1]).run Try.prog w = .ok v' w' ∧ OwnE w' v' (l ++ [x]) ∧ w.grownBy w' v.ownBlock ∧
      (v'.ownBlock = v.ownBlock ∨ (v'.ownBlock = some w.heap.size ∧ w.grownBy w' none)) := by
  obtain ⟨ti, hi, hz0, hz1, hz2⟩ := info_parts infoE
  unfold OwnE
  rw [cellsE_append, List.length_append]
  refine run_append_own3 w 0 30 ty 29 ti _ 3 24 Try.underlying30 hi hz0 hz1 hz2 rfl v _ _ h ⟨r, 0, none⟩ 1 1 (cellsE [x]) (cellsE_length [x]) ?_ (cellsE_one _) (by unfold maxLen; omega) (by omega) (Nat.zero_le _)
  intro j u hj
  rw [Addr.add_lit, Nat.zero_add, blk_cell hr]
  simpa [cellsE] using hj
theorem rowE_len (es : List E) (N i : Nat) : (rowE es N i).length ≤ es.length := by
  unfold rowE
  split <;> exact List.length_filter_le _ _
theorem ownE_slice {w : World} {v : Value} {l : List E} (h : OwnE w v l) (hn : l ≠ []) : ∃ g cap, v = .slice (some ⟨g, 0, none⟩) l.length cap := by
  rcases h.2 with ⟨rfl, h0⟩ | ⟨g0, cap0, cur, rfl, _⟩
  · exact absurd (List.eq_nil_of_length_eq_zero h0) hn
  · exact ⟨g0, cap0, rfl⟩
def addCode (N : Nat) (es : List E) (x : E) : Int :=
  if nodeB N x.frm = false ∨ nodeB N x.to = false then 191 else if x.lab < 1 ∨ 8 < x.lab then 192 else if x ∈ es then 193 else if 65536 ≤ es.length then 194 else 0
def addE (N : Nat) (es : List E) (x : E) : List E := if addCode N es x = 0 then es ++ [x] else es
def AddPost (B : Nat) (w : World) (g N : Nat) (es : List E) (x : E) (e : Ending) (w' : World) : Prop :=
  e = .returned (.int .i64 (addCode N es x)) ∧ ∃ mb ob bb oc bc vs, Gr B w' g N (addE N es x) mb ob bb oc bc vs ∧ Below B w w'
section
variable {B : Nat} {w w' : World} {g N : Nat} {es : List E} {mb ob bb : Nat} {oc bc : Array Value} {vs : Nat → Value}
theorem Gx.gr {ls : Nat → List E} {x : E} (h : Gx B w g N (es ++ [x]) mb ob bb oc bc vs ls) (hl : ∀ i, i < 2 * N → ls i = rowE (es ++ [x]) N i) (hok : ∀ e ∈ es, okE N e) (hx : okE N x) (hlen : es.length < 65536) (hn : N ≤ 1024) : Gr B w g N (es ++ [x]) mb ob bb oc bc vs :=
  ⟨h.hg, h.map, h.ho, h.hb, h.so, h.sb, h.co, h.cb, fun i hi => by rw [← hl i hi]; exact h.row i hi, h.ap, h.rows, h.pair, fun e he => by
    rcases List.mem_append.1 he with he | he
    · exact hok e he
    · rw [List.mem_singleton] at he
      subst he
      exact hx, by simp; omega, hn, h.base⟩
theorem add_refused (h : Gr B w g N es mb ob bb oc bc vs) {x : E} {c : Int} (hc : addCode N es x = c) (hn : c ≠ 0) (hB : B ≤ w.heap.size) (hb : Below w.heap.size w w') : AddPost B w g N es x (.returned (.int .i64 c)) w' := by
  refine ⟨by rw [hc], mb, ob, bb, oc, bc, vs, ?_, hb.mono hB⟩
  unfold addE
  rw [if_neg (by rw [hc]; exact hn)]
  exact h.below hb
set_option maxHeartbeats 8000000 in
set_option maxRecDepth 100000 in
theorem add_bad (h : Gr B w g N es mb ob bb oc bc vs) (x : E) (hB : B ≤ w.heap.size) (hok : ¬ okE N x) : Calls Try.prog 12 #[.pointer (some ⟨g, 0, none⟩), x.agg] w (AddPost B w g N es x) := by
  have hal := (Below.refl _ w).alloc (Nat.le_refl _) (.cells #[.int .i64 x.frm, .int .i64 x.to, .int .i64 x.lab] 29)
  have H0 := hid h
  have H1 := hid (h.below hal)
  have HB1 := hid hal
  have X1 : Hid ((w.alloc (.cells #[.int .i64 x.frm, .int .i64 x.to, .int .i64 x.lab] 29)).heap[w.heap.size]? = some (.cells #[.int .i64 x.frm, .int .i64 x.to, .int .i64 x.lab] 29 (0, 0))) := hid (heap_alloc_new w _)
  clear h hal
  go_enter Try.func12, Try.ntmps12
  go_upto_region 1 with fail
  obtain ⟨w1, hw1⟩ : ∃ w1, w.alloc (.cells #[.int .i64 x.frm, .int .i64 x.to, .int .i64 x.lab] 29) = w1 := ⟨_, rfl⟩
  rw [hw1] at H1 HB1 X1 ⊢
  clear hw1
  have x0 : w1.cell? ⟨w.heap.size, 0, none⟩ = some (.int .i64 x.frm) := (blk_cell X1.out 0).trans rfl
  have x1 : w1.cell? ⟨w.heap.size, 1, none⟩ = some (.int .i64 x.to) := (blk_cell X1.out 1).trans rfl
  have x2 : w1.cell? ⟨w.heap.size, 2, none⟩ = some (.int .i64 x.lab) := (blk_cell X1.out 2).trans rfl
  have HN1 := hid (fun i => node_any H1.out i)
  cases hn1 : nodeB N x.frm with
  | false =>
    have hc : addCode N es x = 191 := by simp [addCode, hn1]
    go_wp2_with (go_at_call 28; refine (HN1.out _).mono ?_; rintro e w' ⟨rfl, rfl⟩; rw [hn1])
    go_ret
    exact add_refused H0.out hc (by omega) hB HB1.out
  | true =>
    cases hn2 : nodeB N x.to with
    | false =>
      have hc : addCode N es x = 191 := by simp [addCode, hn1, hn2]
      go_wp2_with (go_at_call 28; refine (HN1.out _).mono ?_; rintro e w' ⟨rfl, rfl⟩; first | rw [hn1] | rw [hn2])
      go_ret
      exact add_refused H0.out hc (by omega) hB HB1.out
    | true =>
      have hl : x.lab < 1 ∨ 8 < x.lab := by
        have hn1' := hn1
        have hn2' := hn2
        simp [nodeB] at hn1' hn2'
        unfold okE at hok
        omega
      have hc : addCode N es x = 192 := by unfold addCode; rw [if_neg (by simp [hn1, hn2]), if_pos hl]
      clear hok
      rcases hl with hl | hl
      · go_wp2_with (go_at_call 28; refine (HN1.out _).mono ?_; rintro e w' ⟨rfl, rfl⟩; first | rw [hn1] | rw [hn2])
        go_ret
        exact add_refused H0.out hc (by omega) hB HB1.out
      · have hl2 : ¬ x.lab < 1 := by omega
        go_wp2_with (go_at_call 28; refine (HN1.out _).mono ?_; rintro e w' ⟨rfl, rfl⟩; first | rw [hn1] | rw [hn2])
        go_ret
        exact add_refused H0.out hc (by omega) hB HB1.out
set_option maxHeartbeats 8000000 in
set_option maxRecDepth 100000 in
theorem add_ok (h : Gr B w g N es mb ob bb oc bc vs) (f t : Nat) (lab : Int) (hf : f < N) (ht : t < N) (hl1 : ¬ lab < 1) (hl2 : ¬ 8 < lab) (hB : B ≤ w.heap.size) : Calls Try.prog 12 #[.pointer (some ⟨g, 0, none⟩), (E.mk (f : Int) (t : Int) lab).agg] w (AddPost B w g N es ⟨(f : Int), (t : Int), lab⟩) := by
  have hn1 : nodeB N (f : Int) = true := by simp [nodeB]; omega
  have hn2 : nodeB N (t : Int) = true := by simp [nodeB]; omega
  have hnn := h.nn
  have hwf : wfE ⟨(f : Int), (t : Int), lab⟩ := ⟨show (Lit.int .i64 (f : Int)).wf = true from WalkArith.wf_i64 (by omega), show (Lit.int .i64 (t : Int)).wf = true from WalkArith.wf_i64 (by omega), show (Lit.int .i64 lab).wf = true from WalkArith.wf_i64 (by omega)⟩
  have hal := (Below.refl _ w).alloc (Nat.le_refl _) (.cells #[.int .i64 (f : Int), .int .i64 (t : Int), .int .i64 lab] 29)
  have H0 := hid h
  have H1 := hid (h.below hal)
  have HB1 := hid hal
  have X1 : Hid ((w.alloc (.cells #[.int .i64 (f : Int), .int .i64 (t : Int), .int .i64 lab] 29)).heap[w.heap.size]? = some (.cells #[.int .i64 (f : Int), .int .i64 (t : Int), .int .i64 lab] 29 (0, 0))) := hid (heap_alloc_new w _)
  clear h hal
  go_enter Try.func12, Try.ntmps12
  go_upto_region 1 with fail
  obtain ⟨w1, hw1⟩ : ∃ w1, w.alloc (.cells #[.int .i64 (f : Int), .int .i64 (t : Int), .int .i64 lab] 29) = w1 := ⟨_, rfl⟩
  rw [hw1] at H1 HB1 X1 ⊢
  clear hw1
  have x0 : w1.cell? ⟨w.heap.size, 0, none⟩ = some (.int .i64 (f : Int)) := (blk_cell X1.out 0).trans rfl
  have x1 : w1.cell? ⟨w.heap.size, 1, none⟩ = some (.int .i64 (t : Int)) := (blk_cell X1.out 1).trans rfl
  have x2 : w1.cell? ⟨w.heap.size, 2, none⟩ = some (.int .i64 lab) := (blk_cell X1.out 2).trans rfl
  have HN1 := hid (fun i => node_any H1.out i)
  have c1 : w1.cell? ⟨g, 1, none⟩ = some (.map (some mb)) := (blk_cell H1.out.hg 1).trans rfl
  obtain ⟨c, hlook, hpos⟩ := GMap.has (w := w1.drew) (H1.out.map.kept rfl) hwf
  have HPos := hid hpos
  clear hpos
  go_upto_region 5 with (go_at_call 28; refine (HN1.out _).mono ?_; rintro e w' ⟨rfl, rfl⟩; first | rw [hn1] | rw [hn2])
  go_region
  clear hlook
  obtain ⟨z, hz⟩ : ∃ z : Int, z = es.length := ⟨_, rfl⟩
  have hlen := (GMap.len (w := w'.drew) (H1.out.map.kept rfl) 3)
  rw [← hz] at hlen
  have HZ := hid hz
  clear hz
  by_cases hm : (E.mk (f : Int) (t : Int) lab) ∈ es
  · have hc : addCode N es ⟨(f : Int), (t : Int), lab⟩ = 193 := by unfold addCode; rw [if_neg (by simp [hn1, hn2]), if_neg (by simp; omega), if_pos hm]
    have dm : 0 < c := HPos.out.2 hm
    clear hm
    go_wp2_with fail
    go_ret
    exact add_refused H0.out hc (by omega) hB HB1.out.drew
  · have dm : ¬ 0 < c := fun e => hm (HPos.out.1 e)
    have hm' := hid hm
    clear hm
    by_cases hfull : 65536 ≤ es.length
    · have hc : addCode N es ⟨(f : Int), (t : Int), lab⟩ = 194 := by unfold addCode; rw [if_neg (by simp [hn1, hn2]), if_neg (by simp; omega), if_neg hm'.out, if_pos hfull]
      have df : (65536 : Int) ≤ z := by have := HZ.out; omega
      clear hfull
      go_wp2_with fail
      go_ret
      exact add_refused H0.out hc (by omega) hB HB1.out.drew
    · have hc : addCode N es ⟨(f : Int), (t : Int), lab⟩ = 0 := by unfold addCode; rw [if_neg (by simp [hn1, hn2]), if_neg (by simp; omega), if_neg hm'.out, if_neg hfull]
      have df : ¬ (65536 : Int) ≤ z := by have := HZ.out; omega
      have hlen2 := (GMap.len (w := w'.drew.drew) (H1.out.map.kept rfl) 3)
      rw [← HZ.out] at hlen2
      obtain ⟨w2, hupd, hmap2, hg2⟩ := GMap.add (w := w'.drew.drew) (H1.out.map.kept rfl) hwf hm'.out (by omega) (c := z + 1) (by have := HZ.out; omega) (WalkArith.wf_i64 (by have := HZ.out; omega))
      have hl63 : z + 1 ≤ 9223372036854775807 := by omega
      have hl64 : 0 ≤ z := by have := HZ.out; omega
      have hF := hid hfull
      have HC := hid hc
      clear hfull hc
      go_upto_region 9 with fail
      go_region
      have hdd := ((Below.refl w'.heap.size w').drew).drew
      obtain ⟨q1, q2⟩ := (H1.out.below hdd).gx hmap2 hg2
      have G2 := hid q1
      have B2 := hid ((HB1.out.mono hB).trans ((hdd.mono (Nat.le_trans hB HB1.out.size)).trans q2))
      have X2 : w2.heap[w.heap.size]? = _ := (hg2.block w.heap.size (blk_lt X1.out) (fun e => by have := H0.out.map.lt; cases e; omega)).trans X1.out
      have HX2 := hid X2
      have hsz2 : w.heap.size ≤ w2.heap.size := B2.out.size
      have hold : ∀ i, i < 2 * N → (vs i).ownBlock ≠ some w.heap.size := fun i hi e => by have := ownE_lt (H0.out.row i hi) _ e; omega
      clear hupd hmap2 hg2 q1 q2 X2 x0 x1 x2 c1 hlen hlen2 X1 hdd HN1
      have gc4 : w2.cell? ⟨g, 2, none⟩ = some (.slice (some ⟨ob, 0, none⟩) N N) := (blk_cell G2.out.hg 2).trans rfl
      have e40 : w2.cell? ⟨w.heap.size, 0, none⟩ = some (.int .i64 (f : Int)) := (blk_cell HX2.out 0).trans rfl
      have e41 : w2.cell? ⟨w.heap.size, 1, none⟩ = some (.int .i64 (t : Int)) := (blk_cell HX2.out 1).trans rfl
      have e42 : w2.cell? ⟨w.heap.size, 2, none⟩ = some (.int .i64 lab) := (blk_cell HX2.out 2).trans rfl
      have r4 : w2.cell? ⟨ob, f, none⟩ = some (vs (f)) := (blk_cell G2.out.ho f).trans (G2.out.co f hf)
      have hal4 := ((Below.refl w2.heap.size w2).drew).alloc (Nat.le_refl _) (.cells #[.int .i64 (f : Int), .int .i64 (t : Int), .int .i64 lab] 29)
      have rb4 : ((w2.drew).alloc (.cells #[.int .i64 (f : Int), .int .i64 (t : Int), .int .i64 lab] 29)).cell? ⟨ob, f, none⟩ = some (vs (f)) := (hal4.cell (p := ⟨ob, f, none⟩) (blk_lt G2.out.ho)).trans r4
      have hI4 : f < 2 * N := by omega
      obtain ⟨v4, w4, hrun4, hown4, hgr4, hdis4⟩ := app_edge ((w2.drew).alloc (.cells #[.int .i64 (f : Int), .int .i64 (t : Int), .int .i64 lab] 29)) 30 (vs (f)) ((rowE es N) (f)) ⟨(f : Int), (t : Int), lab⟩ (ownE_below (G2.out.row (f) hI4) hal4) w2.heap.size (heap_alloc_new w2.drew _) (Nat.le_trans (Nat.le_trans (rowE_len es N f) (Nat.le_of_lt (Nat.lt_of_not_le hF.out))) (by omega))
      obtain ⟨gp4, cp4, rfl⟩ := ownE_slice hown4 (by simp)
      obtain ⟨nl4, hnl4⟩ : ∃ nl, nl = ((rowE es N) (f) ++ [E.mk (f : Int) (t : Int) lab]).length := ⟨_, rfl⟩
      rw [← hnl4] at hrun4 hown4 hdis4
      have HNL4 := hid hnl4
      clear hnl4
      have hne4 : ∀ k, k = g ∨ k = ob ∨ k = w.heap.size → w4.heap[k]? = w2.heap[k]? := fun k hk => (hgr4.block k (by have := blk_lt G2.out.hg; have := blk_lt G2.out.ho; have := blk_lt HX2.out; simp; omega) (fun e => by
        have h1 := G2.out.rows (f) hI4 k e.symm
        rcases hk with hk | hk | hk
        · omega
        · omega
        · subst hk; exact hold f (by omega) e.symm)).trans (hal4.block k (by have := blk_lt G2.out.hg; have := blk_lt G2.out.ho; have := blk_lt HX2.out; omega))
      have gd4 : w4.cell? ⟨g, 2, none⟩ = some (.slice (some ⟨ob, 0, none⟩) N N) := (World.cell?_of_block (w := w2) (a := ⟨g, 2, none⟩) (hne4 g (.inl rfl))).trans gc4
      have f40 : w4.cell? ⟨w.heap.size, 0, none⟩ = some (.int .i64 (f : Int)) := (World.cell?_of_block (w := w2) (a := ⟨w.heap.size, 0, none⟩) (hne4 _ (.inr (.inr rfl)))).trans e40
      have f41 : w4.cell? ⟨w.heap.size, 1, none⟩ = some (.int .i64 (t : Int)) := (World.cell?_of_block (w := w2) (a := ⟨w.heap.size, 1, none⟩) (hne4 _ (.inr (.inr rfl)))).trans e41
      have f42 : w4.cell? ⟨w.heap.size, 2, none⟩ = some (.int .i64 lab) := (World.cell?_of_block (w := w2) (a := ⟨w.heap.size, 2, none⟩) (hne4 _ (.inr (.inr rfl)))).trans e42
      have rr4 : w4.heap[ob]? = _ := (hne4 ob (.inr (.inl rfl))).trans G2.out.ho
      have rc4 : w4.cell? ⟨ob, f, none⟩ = some (vs (f)) := (blk_cell rr4 f).trans (G2.out.co f hf)
      have rf4 := blk_free rr4 f
      have hgo4 : g ≠ ob := by have := G2.out.ap; omega
      have hbo4 : w.heap.size ≠ ob := by have := blk_lt H0.out.ho; omega
      have hfi4 : (f : Int) < (N : Int) := by omega
      have hx4 : w.heap.size < w2.heap.size := blk_lt HX2.out
      have hg4 : g < w2.heap.size := blk_lt G2.out.hg
      have sg4 : ∀ V, (w4.setCell ⟨ob, f, none⟩ V).cell? ⟨g, 2, none⟩ = some (.slice (some ⟨ob, 0, none⟩) N N) := fun V => (World.cell?_of_block (w := w4) (a := ⟨g, 2, none⟩) (Below.heap_setCell w4 ⟨ob, f, none⟩ V g hgo4)).trans gd4
      have s40 : ∀ V, (w4.setCell ⟨ob, f, none⟩ V).cell? ⟨w.heap.size, 0, none⟩ = some (.int .i64 (f : Int)) := fun V => (World.cell?_of_block (w := w4) (a := ⟨w.heap.size, 0, none⟩) (Below.heap_setCell w4 ⟨ob, f, none⟩ V w.heap.size hbo4)).trans f40
      have s41 : ∀ V, (w4.setCell ⟨ob, f, none⟩ V).cell? ⟨w.heap.size, 1, none⟩ = some (.int .i64 (t : Int)) := fun V => (World.cell?_of_block (w := w4) (a := ⟨w.heap.size, 1, none⟩) (Below.heap_setCell w4 ⟨ob, f, none⟩ V w.heap.size hbo4)).trans f41
      have s42 : ∀ V, (w4.setCell ⟨ob, f, none⟩ V).cell? ⟨w.heap.size, 2, none⟩ = some (.int .i64 lab) := fun V => (World.cell?_of_block (w := w4) (a := ⟨w.heap.size, 2, none⟩) (Below.heap_setCell w4 ⟨ob, f, none⟩ V w.heap.size hbo4)).trans f42
      have hoa4 : ob < w2.heap.size := blk_lt G2.out.ho
      have hob4 : ¬ ob = w2.heap.size := by omega
      have hoc4 : ¬ w2.heap.size = ob := by omega
      go_upto_region 10 with fail
      refine wp_region_held_drew (S := fun W' => W'.cell? ⟨g, 2, none⟩ = some (.slice (some ⟨ob, 0, none⟩) N N) ∧ W'.cell? ⟨w.heap.size, 0, none⟩ = some (.int .i64 (f : Int)) ∧ W'.cell? ⟨w.heap.size, 1, none⟩ = some (.int .i64 (t : Int)) ∧ W'.cell? ⟨w.heap.size, 2, none⟩ = some (.int .i64 lab)) (by kernel_rfl) (by (try dsimp only); go_keep) (fun hHeld => ?_)
      refine wpAnyH_take (i := 0) (v := ?_) rfl (by kernel_rfl) (by kernel_rfl) (by kernel_rfl) (fun _ _ _ h => h) (Or.inl ⟨by rfl, ?_⟩) (by assumption) ?_
      rotate_left
      · intro w hSw
        (try dsimp only at hSw)
        go_simp
        all_goals with_reducible rfl
      try simp only [Act.put, List.setIfInBounds_toArray, List.set_cons_zero, List.set_cons_succ]
      refine wpAnyH_take (i := 1) (v := ?_) rfl (by kernel_rfl) (by kernel_rfl) (by kernel_rfl) (fun _ _ _ h => h) (Or.inl ⟨by rfl, ?_⟩) (by assumption) ?_
      rotate_left
      · intro w hSw
        (try dsimp only at hSw)
        go_simp
        all_goals with_reducible rfl
      try simp only [Act.put, List.setIfInBounds_toArray, List.set_cons_zero, List.set_cons_succ]
      refine wpAnyH_take (i := 2) (v := ?_) rfl (by kernel_rfl) (by kernel_rfl) (by kernel_rfl) (fun _ _ _ h => h) (Or.inl ⟨by rfl, ?_⟩) (by assumption) ?_
      rotate_left
      · intro w hSw
        (try dsimp only at hSw)
        go_simp
        all_goals with_reducible rfl
      try simp only [Act.put, List.setIfInBounds_toArray, List.set_cons_zero, List.set_cons_succ]
      refine wpAnyH_take (i := 3) (v := ?_) rfl (by kernel_rfl) (by kernel_rfl) (by kernel_rfl) (fun _ _ _ h => h) (Or.inl ⟨by rfl, ?_⟩) (by assumption) ?_
      rotate_left
      · intro w hSw
        (try dsimp only at hSw)
        go_simp
        all_goals with_reducible rfl
      try simp only [Act.put, List.setIfInBounds_toArray, List.set_cons_zero, List.set_cons_succ]
      refine wpAnyH_take (i := 4) (v := ?_) rfl (by kernel_rfl) (by kernel_rfl) (by kernel_rfl) (fun _ _ _ h => h) (Or.inl ⟨by rfl, ?_⟩) (by assumption) ?_
      rotate_left
      · intro w hSw
        (try dsimp only at hSw)
        go_simp
        all_goals with_reducible rfl
      try simp only [Act.put, List.setIfInBounds_toArray, List.set_cons_zero, List.set_cons_succ]
      refine wpAnyH_take (i := 5) (v := ?_) rfl (by kernel_rfl) (by kernel_rfl) (by kernel_rfl) (fun _ _ _ h => h) (Or.inl ⟨by rfl, ?_⟩) (by assumption) ?_
      rotate_left
      · intro w hSw
        (try dsimp only at hSw)
        go_simp
        all_goals with_reducible rfl
      try simp only [Act.put, List.setIfInBounds_toArray, List.set_cons_zero, List.set_cons_succ]
      refine wpAnyH_take (i := 6) (v := ?_) rfl (by kernel_rfl) (by kernel_rfl) (by kernel_rfl) (fun _ _ _ h => h) (Or.inl ⟨by rfl, ?_⟩) (by assumption) ?_
      rotate_left
      · intro w hSw
        (try dsimp only at hSw)
        go_simp
        all_goals with_reducible rfl
      try simp only [Act.put, List.setIfInBounds_toArray, List.set_cons_zero, List.set_cons_succ]
      refine wpAnyH_take (i := 7) (v := ?_) rfl (by kernel_rfl) (by kernel_rfl) (by kernel_rfl) (fun _ _ _ h => h) (Or.inl ⟨by rfl, ?_⟩) (by assumption) ?_
      rotate_left
      · intro w hSw
        (try dsimp only at hSw)
        go_simp
        all_goals with_reducible rfl
      try simp only [Act.put, List.setIfInBounds_toArray, List.set_cons_zero, List.set_cons_succ]
      refine wpAnyH_take (i := 8) (v := ?_) rfl (by kernel_rfl) (by kernel_rfl) (by kernel_rfl) (fun _ _ _ h => h) (Or.inl ⟨by rfl, ?_⟩) (by assumption) ?_
      rotate_left
      · intro w hSw
        (try dsimp only at hSw)
        go_simp
        all_goals with_reducible rfl
      try simp only [Act.put, List.setIfInBounds_toArray, List.set_cons_zero, List.set_cons_succ]
      refine wpAnyH_take (i := 9) (v := ?_) rfl (by kernel_rfl) (by kernel_rfl) (by kernel_rfl) (fun _ _ _ h => h) (Or.inl ⟨by rfl, ?_⟩) (by assumption) ?_
      rotate_left
      · intro w hSw
        (try dsimp only at hSw)
        go_simp
        all_goals with_reducible rfl
      try simp only [Act.put, List.setIfInBounds_toArray, List.set_cons_zero, List.set_cons_succ]
      refine wpAnyH_take (i := 10) (v := ?_) rfl (by kernel_rfl) (by kernel_rfl) (by kernel_rfl) (fun _ _ _ h => h) (Or.inl ⟨by rfl, ?_⟩) (by assumption) ?_
      rotate_left
      · intro w hSw
        (try dsimp only at hSw)
        go_simp
        all_goals with_reducible rfl
      try simp only [Act.put, List.setIfInBounds_toArray, List.set_cons_zero, List.set_cons_succ]
      refine wpAnyH_take (i := 11) (v := ?_) rfl (by kernel_rfl) (by kernel_rfl) (by kernel_rfl) (fun _ _ _ h => h) (Or.inl ⟨by rfl, ?_⟩) (by assumption) ?_
      rotate_left
      · intro w hSw
        (try dsimp only at hSw)
        go_simp
        all_goals with_reducible rfl
      try simp only [Act.put, List.setIfInBounds_toArray, List.set_cons_zero, List.set_cons_succ]
      refine wpAnyH_take (i := 12) (v := ?_) rfl (by kernel_rfl) (by kernel_rfl) (by kernel_rfl) (fun _ _ _ h => h) (Or.inl ⟨by rfl, ?_⟩) (by assumption) ?_
      rotate_left
      · intro w hSw
        (try dsimp only at hSw)
        go_simp
        all_goals with_reducible rfl
      try simp only [Act.put, List.setIfInBounds_toArray, List.set_cons_zero, List.set_cons_succ]
      refine wpAnyH_take (i := 14) (v := ?_) rfl (by kernel_rfl) (by kernel_rfl) (by kernel_rfl) (fun _ _ _ h => h) (Or.inl ⟨by rfl, ?_⟩) (by assumption) ?_
      rotate_left
      · intro w hSw
        (try dsimp only at hSw)
        go_simp
        all_goals with_reducible rfl
      try simp only [Act.put, List.setIfInBounds_toArray, List.set_cons_zero, List.set_cons_succ]
      refine wpAnyH_ready (rs := [13, 15]) (by kernel_rfl) (by simp) ?_
      refine AllReadyH.cons rfl (fun K hK => ?_) ?_
      · go_simp
        refine hK.out _ _ (by (try dsimp only); go_keep) (fun hHeld => ?_)
        clear hK K
        try simp only [Act.put, List.setIfInBounds_toArray, List.set_cons_zero, List.set_cons_succ]
        refine wpAnyH_ready (rs := [15]) (by kernel_rfl) (by simp) ?_
        refine AllReadyH.cons rfl (fun K hK => ?_) ?_
        · go_simp
          refine hK.out _ _ (by (try dsimp only); go_keep) (fun hHeld => ?_)
          clear hK K
          try simp only [Act.put, List.setIfInBounds_toArray, List.set_cons_zero, List.set_cons_succ]
          refine wpAnyH_ready (rs := [16]) (by kernel_rfl) (by simp) ?_
          refine AllReadyH.cons rfl (fun K hK => ?_) ?_
          · refine step_append_run rfl _ _ 30 30 rfl _ _ rfl rfl hrun4 ?_
            refine hK.out _ _ (by (try dsimp only); go_keep) (fun hHeld => ?_)
            clear hK K
            try simp only [Act.put, List.setIfInBounds_toArray, List.set_cons_zero, List.set_cons_succ]
            refine wpAnyH_take (i := 17) (v := ?_) rfl (by kernel_rfl) (by kernel_rfl) (by kernel_rfl) (fun _ _ _ h => h) (Or.inl ⟨by rfl, ?_⟩) (by assumption) ?_
            rotate_left
            · intro w hSw
              (try dsimp only at hSw)
              go_simp
              all_goals with_reducible rfl
            try simp only [Act.put, List.setIfInBounds_toArray, List.set_cons_zero, List.set_cons_succ]
            refine wpAnyH_ready (rs := [18]) (by kernel_rfl) (by simp) ?_
            refine AllReadyH.cons rfl (fun K hK => ?_) ?_
            · go_simp
              refine hK.out _ _ (by (try dsimp only); go_keep) (fun hHeld => ?_)
              clear hK K
              try simp only [Act.put, List.setIfInBounds_toArray, List.set_cons_zero, List.set_cons_succ]
              refine wpAnyH_done (by kernel_rfl) ?_ _
              obtain ⟨q1, q2⟩ := G2.out.appOut hf hal4 hown4 hgr4 hdis4 (Nat.le_trans hB B2.out.size)
              have G4 := hid q1
              have B4 := hid (B2.out.trans q2)
              have X4 : (w4.setCell ⟨ob, f, none⟩ (.slice (some ⟨gp4, 0, none⟩) nl4 cp4)).heap[w.heap.size]? = _ := ((Below.heap_setCell w4 ⟨ob, f, none⟩ _ w.heap.size hbo4).trans (hne4 _ (.inr (.inr rfl)))).trans HX2.out
              have HX4 := hid X4
              clear q1 q2 X4 gc4 gd4 r4 rb4 rr4 rc4 rf4 sg4 e40 f40 s40 e41 f41 s41 e42 f42 s42 hal4 hrun4 hown4 hgr4 hdis4 hne4 hgo4 hbo4 hfi4 hx4 hg4 hoa4 hob4 hoc4 hHeld
              obtain ⟨u4, hu4⟩ : ∃ u, w4.setCell ⟨ob, f, none⟩ (.slice (some ⟨gp4, 0, none⟩) nl4 cp4) = u := ⟨_, rfl⟩
              rw [hu4] at G4 B4 HX4 ⊢
              clear hu4
              have gc5 : u4.cell? ⟨g, 3, none⟩ = some (.slice (some ⟨bb, 0, none⟩) N N) := (blk_cell G4.out.hg 3).trans rfl
              have e50 : u4.cell? ⟨w.heap.size, 0, none⟩ = some (.int .i64 (f : Int)) := (blk_cell HX4.out 0).trans rfl
              have e51 : u4.cell? ⟨w.heap.size, 1, none⟩ = some (.int .i64 (t : Int)) := (blk_cell HX4.out 1).trans rfl
              have e52 : u4.cell? ⟨w.heap.size, 2, none⟩ = some (.int .i64 lab) := (blk_cell HX4.out 2).trans rfl
              have r5 : u4.cell? ⟨bb, t, none⟩ = some ((upd vs f (.slice (some ⟨gp4, 0, none⟩) nl4 cp4)) (N + t)) := (blk_cell G4.out.hb t).trans (G4.out.cb t ht)
              have hal5 := ((Below.refl u4.heap.size u4).drew).alloc (Nat.le_refl _) (.cells #[.int .i64 (f : Int), .int .i64 (t : Int), .int .i64 lab] 29)
              have rb5 : ((u4.drew).alloc (.cells #[.int .i64 (f : Int), .int .i64 (t : Int), .int .i64 lab] 29)).cell? ⟨bb, t, none⟩ = some ((upd vs f (.slice (some ⟨gp4, 0, none⟩) nl4 cp4)) (N + t)) := (hal5.cell (p := ⟨bb, t, none⟩) (blk_lt G4.out.hb)).trans r5
              have hI5 : N + t < 2 * N := by omega
              obtain ⟨v5, w5, hrun5, hown5, hgr5, hdis5⟩ := app_edge ((u4.drew).alloc (.cells #[.int .i64 (f : Int), .int .i64 (t : Int), .int .i64 lab] 29)) 30 ((upd vs f (.slice (some ⟨gp4, 0, none⟩) nl4 cp4)) (N + t)) ((upd (rowE es N) f (rowE es N f ++ [E.mk (f : Int) (t : Int) lab])) (N + t)) ⟨(f : Int), (t : Int), lab⟩ (ownE_below (G4.out.row (N + t) hI5) hal5) u4.heap.size (heap_alloc_new u4.drew _) (by rw [upd_other (show N + t ≠ f by omega)]; exact (Nat.le_trans (Nat.le_trans (rowE_len es N (N + t)) (Nat.le_of_lt (Nat.lt_of_not_le hF.out))) (by omega)))
              obtain ⟨gp5, cp5, rfl⟩ := ownE_slice hown5 (by simp)
              obtain ⟨nl5, hnl5⟩ : ∃ nl, nl = ((upd (rowE es N) f (rowE es N f ++ [E.mk (f : Int) (t : Int) lab])) (N + t) ++ [E.mk (f : Int) (t : Int) lab]).length := ⟨_, rfl⟩
              rw [← hnl5] at hrun5 hown5 hdis5
              have HNL5 := hid hnl5
              clear hnl5
              have hne5 : ∀ k, k = g ∨ k = bb ∨ k = w.heap.size → w5.heap[k]? = u4.heap[k]? := fun k hk => (hgr5.block k (by have := blk_lt G4.out.hg; have := blk_lt G4.out.hb; have := blk_lt HX4.out; simp; omega) (fun e => by
                have h1 := G4.out.rows (N + t) hI5 k e.symm
                rcases hk with hk | hk | hk
                · omega
                · omega
                · subst hk; have e9 := e.symm; rw [upd_other (show N + t ≠ f by omega)] at e9; exact hold (N + t) (by omega) e9)).trans (hal5.block k (by have := blk_lt G4.out.hg; have := blk_lt G4.out.hb; have := blk_lt HX4.out; omega))
              have gd5 : w5.cell? ⟨g, 3, none⟩ = some (.slice (some ⟨bb, 0, none⟩) N N) := (World.cell?_of_block (w := u4) (a := ⟨g, 3, none⟩) (hne5 g (.inl rfl))).trans gc5
              have f50 : w5.cell? ⟨w.heap.size, 0, none⟩ = some (.int .i64 (f : Int)) := (World.cell?_of_block (w := u4) (a := ⟨w.heap.size, 0, none⟩) (hne5 _ (.inr (.inr rfl)))).trans e50
              have f51 : w5.cell? ⟨w.heap.size, 1, none⟩ = some (.int .i64 (t : Int)) := (World.cell?_of_block (w := u4) (a := ⟨w.heap.size, 1, none⟩) (hne5 _ (.inr (.inr rfl)))).trans e51
              have f52 : w5.cell? ⟨w.heap.size, 2, none⟩ = some (.int .i64 lab) := (World.cell?_of_block (w := u4) (a := ⟨w.heap.size, 2, none⟩) (hne5 _ (.inr (.inr rfl)))).trans e52
              have rr5 : w5.heap[bb]? = _ := (hne5 bb (.inr (.inl rfl))).trans G4.out.hb
              have rc5 : w5.cell? ⟨bb, t, none⟩ = some ((upd vs f (.slice (some ⟨gp4, 0, none⟩) nl4 cp4)) (N + t)) := (blk_cell rr5 t).trans (G4.out.cb t ht)
              have rf5 := blk_free rr5 t
              have hgo5 : g ≠ bb := by have := G4.out.ap; omega
              have hbo5 : w.heap.size ≠ bb := by have := blk_lt H0.out.hb; omega
              have hfi5 : (t : Int) < (N : Int) := by omega
              have hx5 : w.heap.size < u4.heap.size := blk_lt HX4.out
              have hg5 : g < u4.heap.size := blk_lt G4.out.hg
              have sg5 : ∀ V, (w5.setCell ⟨bb, t, none⟩ V).cell? ⟨g, 3, none⟩ = some (.slice (some ⟨bb, 0, none⟩) N N) := fun V => (World.cell?_of_block (w := w5) (a := ⟨g, 3, none⟩) (Below.heap_setCell w5 ⟨bb, t, none⟩ V g hgo5)).trans gd5
              have s50 : ∀ V, (w5.setCell ⟨bb, t, none⟩ V).cell? ⟨w.heap.size, 0, none⟩ = some (.int .i64 (f : Int)) := fun V => (World.cell?_of_block (w := w5) (a := ⟨w.heap.size, 0, none⟩) (Below.heap_setCell w5 ⟨bb, t, none⟩ V w.heap.size hbo5)).trans f50
              have s51 : ∀ V, (w5.setCell ⟨bb, t, none⟩ V).cell? ⟨w.heap.size, 1, none⟩ = some (.int .i64 (t : Int)) := fun V => (World.cell?_of_block (w := w5) (a := ⟨w.heap.size, 1, none⟩) (Below.heap_setCell w5 ⟨bb, t, none⟩ V w.heap.size hbo5)).trans f51
              have s52 : ∀ V, (w5.setCell ⟨bb, t, none⟩ V).cell? ⟨w.heap.size, 2, none⟩ = some (.int .i64 lab) := fun V => (World.cell?_of_block (w := w5) (a := ⟨w.heap.size, 2, none⟩) (Below.heap_setCell w5 ⟨bb, t, none⟩ V w.heap.size hbo5)).trans f52
              have hoa5 : bb < u4.heap.size := blk_lt G4.out.hb
              have hob5 : ¬ bb = u4.heap.size := by omega
              have hoc5 : ¬ u4.heap.size = bb := by omega
              go_upto_region 11 with fail
              refine wp_region_held_drew (S := fun W' => W'.cell? ⟨g, 3, none⟩ = some (.slice (some ⟨bb, 0, none⟩) N N) ∧ W'.cell? ⟨w.heap.size, 0, none⟩ = some (.int .i64 (f : Int)) ∧ W'.cell? ⟨w.heap.size, 1, none⟩ = some (.int .i64 (t : Int)) ∧ W'.cell? ⟨w.heap.size, 2, none⟩ = some (.int .i64 lab)) (by kernel_rfl) (by (try dsimp only); go_keep) (fun hHeld => ?_)
              refine wpAnyH_take (i := 0) (v := ?_) rfl (by kernel_rfl) (by kernel_rfl) (by kernel_rfl) (fun _ _ _ h => h) (Or.inl ⟨by rfl, ?_⟩) (by assumption) ?_
              rotate_left
              · intro w hSw
                (try dsimp only at hSw)
                go_simp
                all_goals with_reducible rfl
              try simp only [Act.put, List.setIfInBounds_toArray, List.set_cons_zero, List.set_cons_succ]
              refine wpAnyH_take (i := 1) (v := ?_) rfl (by kernel_rfl) (by kernel_rfl) (by kernel_rfl) (fun _ _ _ h => h) (Or.inl ⟨by rfl, ?_⟩) (by assumption) ?_
              rotate_left
              · intro w hSw
                (try dsimp only at hSw)
                go_simp
                all_goals with_reducible rfl
              try simp only [Act.put, List.setIfInBounds_toArray, List.set_cons_zero, List.set_cons_succ]
              refine wpAnyH_take (i := 2) (v := ?_) rfl (by kernel_rfl) (by kernel_rfl) (by kernel_rfl) (fun _ _ _ h => h) (Or.inl ⟨by rfl, ?_⟩) (by assumption) ?_
              rotate_left
              · intro w hSw
                (try dsimp only at hSw)
                go_simp
                all_goals with_reducible rfl
              try simp only [Act.put, List.setIfInBounds_toArray, List.set_cons_zero, List.set_cons_succ]
              refine wpAnyH_take (i := 3) (v := ?_) rfl (by kernel_rfl) (by kernel_rfl) (by kernel_rfl) (fun _ _ _ h => h) (Or.inl ⟨by rfl, ?_⟩) (by assumption) ?_
              rotate_left
              · intro w hSw
                (try dsimp only at hSw)
                go_simp
                all_goals with_reducible rfl
              try simp only [Act.put, List.setIfInBounds_toArray, List.set_cons_zero, List.set_cons_succ]
              refine wpAnyH_take (i := 4) (v := ?_) rfl (by kernel_rfl) (by kernel_rfl) (by kernel_rfl) (fun _ _ _ h => h) (Or.inl ⟨by rfl, ?_⟩) (by assumption) ?_
              rotate_left
              · intro w hSw
                (try dsimp only at hSw)
                go_simp
                all_goals with_reducible rfl
              try simp only [Act.put, List.setIfInBounds_toArray, List.set_cons_zero, List.set_cons_succ]
              refine wpAnyH_take (i := 5) (v := ?_) rfl (by kernel_rfl) (by kernel_rfl) (by kernel_rfl) (fun _ _ _ h => h) (Or.inl ⟨by rfl, ?_⟩) (by assumption) ?_
              rotate_left
              · intro w hSw
                (try dsimp only at hSw)
                go_simp
                all_goals with_reducible rfl
              try simp only [Act.put, List.setIfInBounds_toArray, List.set_cons_zero, List.set_cons_succ]
              refine wpAnyH_take (i := 6) (v := ?_) rfl (by kernel_rfl) (by kernel_rfl) (by kernel_rfl) (fun _ _ _ h => h) (Or.inl ⟨by rfl, ?_⟩) (by assumption) ?_
              rotate_left
              · intro w hSw
                (try dsimp only at hSw)
                go_simp
                all_goals with_reducible rfl
              try simp only [Act.put, List.setIfInBounds_toArray, List.set_cons_zero, List.set_cons_succ]
              refine wpAnyH_take (i := 7) (v := ?_) rfl (by kernel_rfl) (by kernel_rfl) (by kernel_rfl) (fun _ _ _ h => h) (Or.inl ⟨by rfl, ?_⟩) (by assumption) ?_
              rotate_left
              · intro w hSw
                (try dsimp only at hSw)
                go_simp
                all_goals with_reducible rfl
              try simp only [Act.put, List.setIfInBounds_toArray, List.set_cons_zero, List.set_cons_succ]
              refine wpAnyH_take (i := 8) (v := ?_) rfl (by kernel_rfl) (by kernel_rfl) (by kernel_rfl) (fun _ _ _ h => h) (Or.inl ⟨by rfl, ?_⟩) (by assumption) ?_
              rotate_left
              · intro w hSw
                (try dsimp only at hSw)
                go_simp
                all_goals with_reducible rfl
              try simp only [Act.put, List.setIfInBounds_toArray, List.set_cons_zero, List.set_cons_succ]
              refine wpAnyH_take (i := 9) (v := ?_) rfl (by kernel_rfl) (by kernel_rfl) (by kernel_rfl) (fun _ _ _ h => h) (Or.inl ⟨by rfl, ?_⟩) (by assumption) ?_
              rotate_left
              · intro w hSw
                (try dsimp only at hSw)
                go_simp
                all_goals with_reducible rfl
              try simp only [Act.put, List.setIfInBounds_toArray, List.set_cons_zero, List.set_cons_succ]
              refine wpAnyH_take (i := 10) (v := ?_) rfl (by kernel_rfl) (by kernel_rfl) (by kernel_rfl) (fun _ _ _ h => h) (Or.inl ⟨by rfl, ?_⟩) (by assumption) ?_
              rotate_left
              · intro w hSw
                (try dsimp only at hSw)
                go_simp
                all_goals with_reducible rfl
              try simp only [Act.put, List.setIfInBounds_toArray, List.set_cons_zero, List.set_cons_succ]
              refine wpAnyH_take (i := 11) (v := ?_) rfl (by kernel_rfl) (by kernel_rfl) (by kernel_rfl) (fun _ _ _ h => h) (Or.inl ⟨by rfl, ?_⟩) (by assumption) ?_
              rotate_left
              · intro w hSw
                (try dsimp only at hSw)
                go_simp
                all_goals with_reducible rfl
              try simp only [Act.put, List.setIfInBounds_toArray, List.set_cons_zero, List.set_cons_succ]
              refine wpAnyH_take (i := 12) (v := ?_) rfl (by kernel_rfl) (by kernel_rfl) (by kernel_rfl) (fun _ _ _ h => h) (Or.inl ⟨by rfl, ?_⟩) (by assumption) ?_
              rotate_left
              · intro w hSw
                (try dsimp only at hSw)
                go_simp
                all_goals with_reducible rfl
              try simp only [Act.put, List.setIfInBounds_toArray, List.set_cons_zero, List.set_cons_succ]
              refine wpAnyH_take (i := 14) (v := ?_) rfl (by kernel_rfl) (by kernel_rfl) (by kernel_rfl) (fun _ _ _ h => h) (Or.inl ⟨by rfl, ?_⟩) (by assumption) ?_
              rotate_left
              · intro w hSw
                (try dsimp only at hSw)
                go_simp
                all_goals with_reducible rfl
              try simp only [Act.put, List.setIfInBounds_toArray, List.set_cons_zero, List.set_cons_succ]
              refine wpAnyH_ready (rs := [13, 15]) (by kernel_rfl) (by simp) ?_
              refine AllReadyH.cons rfl (fun K hK => ?_) ?_
              · go_simp
                refine hK.out _ _ (by (try dsimp only); go_keep) (fun hHeld => ?_)
                clear hK K
                try simp only [Act.put, List.setIfInBounds_toArray, List.set_cons_zero, List.set_cons_succ]
                refine wpAnyH_ready (rs := [15]) (by kernel_rfl) (by simp) ?_
                refine AllReadyH.cons rfl (fun K hK => ?_) ?_
                · go_simp
                  refine hK.out _ _ (by (try dsimp only); go_keep) (fun hHeld => ?_)
                  clear hK K
                  try simp only [Act.put, List.setIfInBounds_toArray, List.set_cons_zero, List.set_cons_succ]
                  refine wpAnyH_ready (rs := [16]) (by kernel_rfl) (by simp) ?_
                  refine AllReadyH.cons rfl (fun K hK => ?_) ?_
                  · refine step_append_run rfl _ _ 30 30 rfl _ _ rfl rfl hrun5 ?_
                    refine hK.out _ _ (by (try dsimp only); go_keep) (fun hHeld => ?_)
                    clear hK K
                    try simp only [Act.put, List.setIfInBounds_toArray, List.set_cons_zero, List.set_cons_succ]
                    refine wpAnyH_take (i := 17) (v := ?_) rfl (by kernel_rfl) (by kernel_rfl) (by kernel_rfl) (fun _ _ _ h => h) (Or.inl ⟨by rfl, ?_⟩) (by assumption) ?_
                    rotate_left
                    · intro w hSw
                      (try dsimp only at hSw)
                      go_simp
                      all_goals with_reducible rfl
                    try simp only [Act.put, List.setIfInBounds_toArray, List.set_cons_zero, List.set_cons_succ]
                    refine wpAnyH_ready (rs := [18]) (by kernel_rfl) (by simp) ?_
                    refine AllReadyH.cons rfl (fun K hK => ?_) ?_
                    · go_simp
                      refine hK.out _ _ (by (try dsimp only); go_keep) (fun hHeld => ?_)
                      clear hK K
                      try simp only [Act.put, List.setIfInBounds_toArray, List.set_cons_zero, List.set_cons_succ]
                      refine wpAnyH_done (by kernel_rfl) ?_ _
                      obtain ⟨q1, q2⟩ := G4.out.appBack ht hal5 hown5 hgr5 hdis5 (Nat.le_trans hB B4.out.size)
                      have G5 := hid q1
                      have B5 := hid (B4.out.trans q2)
                      have X5 : (w5.setCell ⟨bb, t, none⟩ (.slice (some ⟨gp5, 0, none⟩) nl5 cp5)).heap[w.heap.size]? = _ := ((Below.heap_setCell w5 ⟨bb, t, none⟩ _ w.heap.size hbo5).trans (hne5 _ (.inr (.inr rfl)))).trans HX4.out
                      have HX5 := hid X5
                      clear q1 q2 X5 gc5 gd5 r5 rb5 rr5 rc5 rf5 sg5 e50 f50 s50 e51 f51 s51 e52 f52 s52 hal5 hrun5 hown5 hgr5 hdis5 hne5 hgo5 hbo5 hfi5 hx5 hg5 hoa5 hob5 hoc5 hHeld
                      obtain ⟨u5, hu5⟩ : ∃ u, w5.setCell ⟨bb, t, none⟩ (.slice (some ⟨gp5, 0, none⟩) nl5 cp5) = u := ⟨_, rfl⟩
                      rw [hu5] at G5 B5 HX5 ⊢
                      clear hu5
                      go_wp2_with fail
                      go_ret
                      have G6 := G5.out.gr (fun i hi => (rowE_add es N f t lab hf i hi).symm) H0.out.ok ⟨by simp, by simp; omega, by simp, by simp; omega, by simp; omega, by simp; omega⟩ (by have := hF.out; omega) hnn
                      rw [show es ++ [E.mk (f : Int) (t : Int) lab] = addE N es ⟨(f : Int), (t : Int), lab⟩ from by unfold addE; rw [if_pos HC.out]] at G6
                      exact ⟨by rw [HC.out]; rfl, mb, ob, bb, _, _, _, G6, B5.out⟩
                    exact AllReadyH.nil
                  exact AllReadyH.nil
                exact AllReadyH.nil
              refine AllReadyH.cons rfl (fun K hK => ?_) ?_
              · go_simp
                refine hK.out _ _ (by (try dsimp only); go_keep) (fun hHeld => ?_)
                clear hK K
                try simp only [Act.put, List.setIfInBounds_toArray, List.set_cons_zero, List.set_cons_succ]
                refine wpAnyH_ready (rs := [13]) (by kernel_rfl) (by simp) ?_
                refine AllReadyH.cons rfl (fun K hK => ?_) ?_
                · go_simp
                  refine hK.out _ _ (by (try dsimp only); go_keep) (fun hHeld => ?_)
                  clear hK K
                  try simp only [Act.put, List.setIfInBounds_toArray, List.set_cons_zero, List.set_cons_succ]
                  refine wpAnyH_ready (rs := [16]) (by kernel_rfl) (by simp) ?_
                  refine AllReadyH.cons rfl (fun K hK => ?_) ?_
                  · refine step_append_run rfl _ _ 30 30 rfl _ _ rfl rfl hrun5 ?_
                    refine hK.out _ _ (by (try dsimp only); go_keep) (fun hHeld => ?_)
                    clear hK K
                    try simp only [Act.put, List.setIfInBounds_toArray, List.set_cons_zero, List.set_cons_succ]
                    refine wpAnyH_take (i := 17) (v := ?_) rfl (by kernel_rfl) (by kernel_rfl) (by kernel_rfl) (fun _ _ _ h => h) (Or.inl ⟨by rfl, ?_⟩) (by assumption) ?_
                    rotate_left
                    · intro w hSw
                      (try dsimp only at hSw)
                      go_simp
                      all_goals with_reducible rfl
                    try simp only [Act.put, List.setIfInBounds_toArray, List.set_cons_zero, List.set_cons_succ]
                    refine wpAnyH_ready (rs := [18]) (by kernel_rfl) (by simp) ?_
                    refine AllReadyH.cons rfl (fun K hK => ?_) ?_
                    · go_simp
                      refine hK.out _ _ (by (try dsimp only); go_keep) (fun hHeld => ?_)
                      clear hK K
                      try simp only [Act.put, List.setIfInBounds_toArray, List.set_cons_zero, List.set_cons_succ]
                      refine wpAnyH_done (by kernel_rfl) ?_ _
                      obtain ⟨q1, q2⟩ := G4.out.appBack ht hal5 hown5 hgr5 hdis5 (Nat.le_trans hB B4.out.size)
                      have G5 := hid q1
                      have B5 := hid (B4.out.trans q2)
                      have X5 : (w5.setCell ⟨bb, t, none⟩ (.slice (some ⟨gp5, 0, none⟩) nl5 cp5)).heap[w.heap.size]? = _ := ((Below.heap_setCell w5 ⟨bb, t, none⟩ _ w.heap.size hbo5).trans (hne5 _ (.inr (.inr rfl)))).trans HX4.out
                      have HX5 := hid X5
                      clear q1 q2 X5 gc5 gd5 r5 rb5 rr5 rc5 rf5 sg5 e50 f50 s50 e51 f51 s51 e52 f52 s52 hal5 hrun5 hown5 hgr5 hdis5 hne5 hgo5 hbo5 hfi5 hx5 hg5 hoa5 hob5 hoc5 hHeld
                      obtain ⟨u5, hu5⟩ : ∃ u, w5.setCell ⟨bb, t, none⟩ (.slice (some ⟨gp5, 0, none⟩) nl5 cp5) = u := ⟨_, rfl⟩
                      rw [hu5] at G5 B5 HX5 ⊢
                      clear hu5
                      go_wp2_with fail
                      go_ret
                      have G6 := G5.out.gr (fun i hi => (rowE_add es N f t lab hf i hi).symm) H0.out.ok ⟨by simp, by simp; omega, by simp, by simp; omega, by simp; omega, by simp; omega⟩ (by have := hF.out; omega) hnn
                      rw [show es ++ [E.mk (f : Int) (t : Int) lab] = addE N es ⟨(f : Int), (t : Int), lab⟩ from by unfold addE; rw [if_pos HC.out]] at G6
                      exact ⟨by rw [HC.out]; rfl, mb, ob, bb, _, _, _, G6, B5.out⟩
                    exact AllReadyH.nil
                  exact AllReadyH.nil
                exact AllReadyH.nil
              exact AllReadyH.nil
            exact AllReadyH.nil
          exact AllReadyH.nil
        exact AllReadyH.nil
      refine AllReadyH.cons rfl (fun K hK => ?_) ?_
      · go_simp
        refine hK.out _ _ (by (try dsimp only); go_keep) (fun hHeld => ?_)
        clear hK K
        try simp only [Act.put, List.setIfInBounds_toArray, List.set_cons_zero, List.set_cons_succ]
        refine wpAnyH_ready (rs := [13]) (by kernel_rfl) (by simp) ?_
        refine AllReadyH.cons rfl (fun K hK => ?_) ?_
        · go_simp
          refine hK.out _ _ (by (try dsimp only); go_keep) (fun hHeld => ?_)
          clear hK K
          try simp only [Act.put, List.setIfInBounds_toArray, List.set_cons_zero, List.set_cons_succ]
          refine wpAnyH_ready (rs := [16]) (by kernel_rfl) (by simp) ?_
          refine AllReadyH.cons rfl (fun K hK => ?_) ?_
          · refine step_append_run rfl _ _ 30 30 rfl _ _ rfl rfl hrun4 ?_
            refine hK.out _ _ (by (try dsimp only); go_keep) (fun hHeld => ?_)
            clear hK K
            try simp only [Act.put, List.setIfInBounds_toArray, List.set_cons_zero, List.set_cons_succ]
            refine wpAnyH_take (i := 17) (v := ?_) rfl (by kernel_rfl) (by kernel_rfl) (by kernel_rfl) (fun _ _ _ h => h) (Or.inl ⟨by rfl, ?_⟩) (by assumption) ?_
            rotate_left
            · intro w hSw
              (try dsimp only at hSw)
              go_simp
              all_goals with_reducible rfl
            try simp only [Act.put, List.setIfInBounds_toArray, List.set_cons_zero, List.set_cons_succ]
            refine wpAnyH_ready (rs := [18]) (by kernel_rfl) (by simp) ?_
            refine AllReadyH.cons rfl (fun K hK => ?_) ?_
            · go_simp
              refine hK.out _ _ (by (try dsimp only); go_keep) (fun hHeld => ?_)
              clear hK K
              try simp only [Act.put, List.setIfInBounds_toArray, List.set_cons_zero, List.set_cons_succ]
              refine wpAnyH_done (by kernel_rfl) ?_ _
              obtain ⟨q1, q2⟩ := G2.out.appOut hf hal4 hown4 hgr4 hdis4 (Nat.le_trans hB B2.out.size)
              have G4 := hid q1
              have B4 := hid (B2.out.trans q2)
              have X4 : (w4.setCell ⟨ob, f, none⟩ (.slice (some ⟨gp4, 0, none⟩) nl4 cp4)).heap[w.heap.size]? = _ := ((Below.heap_setCell w4 ⟨ob, f, none⟩ _ w.heap.size hbo4).trans (hne4 _ (.inr (.inr rfl)))).trans HX2.out
              have HX4 := hid X4
              clear q1 q2 X4 gc4 gd4 r4 rb4 rr4 rc4 rf4 sg4 e40 f40 s40 e41 f41 s41 e42 f42 s42 hal4 hrun4 hown4 hgr4 hdis4 hne4 hgo4 hbo4 hfi4 hx4 hg4 hoa4 hob4 hoc4 hHeld
              obtain ⟨u4, hu4⟩ : ∃ u, w4.setCell ⟨ob, f, none⟩ (.slice (some ⟨gp4, 0, none⟩) nl4 cp4) = u := ⟨_, rfl⟩
              rw [hu4] at G4 B4 HX4 ⊢
              clear hu4
              have gc5 : u4.cell? ⟨g, 3, none⟩ = some (.slice (some ⟨bb, 0, none⟩) N N) := (blk_cell G4.out.hg 3).trans rfl
              have e50 : u4.cell? ⟨w.heap.size, 0, none⟩ = some (.int .i64 (f : Int)) := (blk_cell HX4.out 0).trans rfl
              have e51 : u4.cell? ⟨w.heap.size, 1, none⟩ = some (.int .i64 (t : Int)) := (blk_cell HX4.out 1).trans rfl
              have e52 : u4.cell? ⟨w.heap.size, 2, none⟩ = some (.int .i64 lab) := (blk_cell HX4.out 2).trans rfl
              have r5 : u4.cell? ⟨bb, t, none⟩ = some ((upd vs f (.slice (some ⟨gp4, 0, none⟩) nl4 cp4)) (N + t)) := (blk_cell G4.out.hb t).trans (G4.out.cb t ht)
              have hal5 := ((Below.refl u4.heap.size u4).drew).alloc (Nat.le_refl _) (.cells #[.int .i64 (f : Int), .int .i64 (t : Int), .int .i64 lab] 29)
              have rb5 : ((u4.drew).alloc (.cells #[.int .i64 (f : Int), .int .i64 (t : Int), .int .i64 lab] 29)).cell? ⟨bb, t, none⟩ = some ((upd vs f (.slice (some ⟨gp4, 0, none⟩) nl4 cp4)) (N + t)) := (hal5.cell (p := ⟨bb, t, none⟩) (blk_lt G4.out.hb)).trans r5
              have hI5 : N + t < 2 * N := by omega
              obtain ⟨v5, w5, hrun5, hown5, hgr5, hdis5⟩ := app_edge ((u4.drew).alloc (.cells #[.int .i64 (f : Int), .int .i64 (t : Int), .int .i64 lab] 29)) 30 ((upd vs f (.slice (some ⟨gp4, 0, none⟩) nl4 cp4)) (N + t)) ((upd (rowE es N) f (rowE es N f ++ [E.mk (f : Int) (t : Int) lab])) (N + t)) ⟨(f : Int), (t : Int), lab⟩ (ownE_below (G4.out.row (N + t) hI5) hal5) u4.heap.size (heap_alloc_new u4.drew _) (by rw [upd_other (show N + t ≠ f by omega)]; exact (Nat.le_trans (Nat.le_trans (rowE_len es N (N + t)) (Nat.le_of_lt (Nat.lt_of_not_le hF.out))) (by omega)))
              obtain ⟨gp5, cp5, rfl⟩ := ownE_slice hown5 (by simp)
              obtain ⟨nl5, hnl5⟩ : ∃ nl, nl = ((upd (rowE es N) f (rowE es N f ++ [E.mk (f : Int) (t : Int) lab])) (N + t) ++ [E.mk (f : Int) (t : Int) lab]).length := ⟨_, rfl⟩
              rw [← hnl5] at hrun5 hown5 hdis5
              have HNL5 := hid hnl5
              clear hnl5
              have hne5 : ∀ k, k = g ∨ k = bb ∨ k = w.heap.size → w5.heap[k]? = u4.heap[k]? := fun k hk => (hgr5.block k (by have := blk_lt G4.out.hg; have := blk_lt G4.out.hb; have := blk_lt HX4.out; simp; omega) (fun e => by
                have h1 := G4.out.rows (N + t) hI5 k e.symm
                rcases hk with hk | hk | hk
                · omega
                · omega
                · subst hk; have e9 := e.symm; rw [upd_other (show N + t ≠ f by omega)] at e9; exact hold (N + t) (by omega) e9)).trans (hal5.block k (by have := blk_lt G4.out.hg; have := blk_lt G4.out.hb; have := blk_lt HX4.out; omega))
              have gd5 : w5.cell? ⟨g, 3, none⟩ = some (.slice (some ⟨bb, 0, none⟩) N N) := (World.cell?_of_block (w := u4) (a := ⟨g, 3, none⟩) (hne5 g (.inl rfl))).trans gc5
              have f50 : w5.cell? ⟨w.heap.size, 0, none⟩ = some (.int .i64 (f : Int)) := (World.cell?_of_block (w := u4) (a := ⟨w.heap.size, 0, none⟩) (hne5 _ (.inr (.inr rfl)))).trans e50
              have f51 : w5.cell? ⟨w.heap.size, 1, none⟩ = some (.int .i64 (t : Int)) := (World.cell?_of_block (w := u4) (a := ⟨w.heap.size, 1, none⟩) (hne5 _ (.inr (.inr rfl)))).trans e51
              have f52 : w5.cell? ⟨w.heap.size, 2, none⟩ = some (.int .i64 lab) := (World.cell?_of_block (w := u4) (a := ⟨w.heap.size, 2, none⟩) (hne5 _ (.inr (.inr rfl)))).trans e52
              have rr5 : w5.heap[bb]? = _ := (hne5 bb (.inr (.inl rfl))).trans G4.out.hb
              have rc5 : w5.cell? ⟨bb, t, none⟩ = some ((upd vs f (.slice (some ⟨gp4, 0, none⟩) nl4 cp4)) (N + t)) := (blk_cell rr5 t).trans (G4.out.cb t ht)
              have rf5 := blk_free rr5 t
              have hgo5 : g ≠ bb := by have := G4.out.ap; omega
              have hbo5 : w.heap.size ≠ bb := by have := blk_lt H0.out.hb; omega
              have hfi5 : (t : Int) < (N : Int) := by omega
              have hx5 : w.heap.size < u4.heap.size := blk_lt HX4.out
              have hg5 : g < u4.heap.size := blk_lt G4.out.hg
              have sg5 : ∀ V, (w5.setCell ⟨bb, t, none⟩ V).cell? ⟨g, 3, none⟩ = some (.slice (some ⟨bb, 0, none⟩) N N) := fun V => (World.cell?_of_block (w := w5) (a := ⟨g, 3, none⟩) (Below.heap_setCell w5 ⟨bb, t, none⟩ V g hgo5)).trans gd5
              have s50 : ∀ V, (w5.setCell ⟨bb, t, none⟩ V).cell? ⟨w.heap.size, 0, none⟩ = some (.int .i64 (f : Int)) := fun V => (World.cell?_of_block (w := w5) (a := ⟨w.heap.size, 0, none⟩) (Below.heap_setCell w5 ⟨bb, t, none⟩ V w.heap.size hbo5)).trans f50
              have s51 : ∀ V, (w5.setCell ⟨bb, t, none⟩ V).cell? ⟨w.heap.size, 1, none⟩ = some (.int .i64 (t : Int)) := fun V => (World.cell?_of_block (w := w5) (a := ⟨w.heap.size, 1, none⟩) (Below.heap_setCell w5 ⟨bb, t, none⟩ V w.heap.size hbo5)).trans f51
              have s52 : ∀ V, (w5.setCell ⟨bb, t, none⟩ V).cell? ⟨w.heap.size, 2, none⟩ = some (.int .i64 lab) := fun V => (World.cell?_of_block (w := w5) (a := ⟨w.heap.size, 2, none⟩) (Below.heap_setCell w5 ⟨bb, t, none⟩ V w.heap.size hbo5)).trans f52
              have hoa5 : bb < u4.heap.size := blk_lt G4.out.hb
              have hob5 : ¬ bb = u4.heap.size := by omega
              have hoc5 : ¬ u4.heap.size = bb := by omega
              go_upto_region 11 with fail
              refine wp_region_held_drew (S := fun W' => W'.cell? ⟨g, 3, none⟩ = some (.slice (some ⟨bb, 0, none⟩) N N) ∧ W'.cell? ⟨w.heap.size, 0, none⟩ = some (.int .i64 (f : Int)) ∧ W'.cell? ⟨w.heap.size, 1, none⟩ = some (.int .i64 (t : Int)) ∧ W'.cell? ⟨w.heap.size, 2, none⟩ = some (.int .i64 lab)) (by kernel_rfl) (by (try dsimp only); go_keep) (fun hHeld => ?_)
              refine wpAnyH_take (i := 0) (v := ?_) rfl (by kernel_rfl) (by kernel_rfl) (by kernel_rfl) (fun _ _ _ h => h) (Or.inl ⟨by rfl, ?_⟩) (by assumption) ?_
              rotate_left
              · intro w hSw
                (try dsimp only at hSw)
                go_simp
                all_goals with_reducible rfl
              try simp only [Act.put, List.setIfInBounds_toArray, List.set_cons_zero, List.set_cons_succ]
              refine wpAnyH_take (i := 1) (v := ?_) rfl (by kernel_rfl) (by kernel_rfl) (by kernel_rfl) (fun _ _ _ h => h) (Or.inl ⟨by rfl, ?_⟩) (by assumption) ?_
              rotate_left
              · intro w hSw
                (try dsimp only at hSw)
                go_simp
                all_goals with_reducible rfl
              try simp only [Act.put, List.setIfInBounds_toArray, List.set_cons_zero, List.set_cons_succ]
              refine wpAnyH_take (i := 2) (v := ?_) rfl (by kernel_rfl) (by kernel_rfl) (by kernel_rfl) (fun _ _ _ h => h) (Or.inl ⟨by rfl, ?_⟩) (by assumption) ?_
              rotate_left
              · intro w hSw
                (try dsimp only at hSw)
                go_simp
                all_goals with_reducible rfl
              try simp only [Act.put, List.setIfInBounds_toArray, List.set_cons_zero, List.set_cons_succ]
              refine wpAnyH_take (i := 3) (v := ?_) rfl (by kernel_rfl) (by kernel_rfl) (by kernel_rfl) (fun _ _ _ h => h) (Or.inl ⟨by rfl, ?_⟩) (by assumption) ?_
              rotate_left
              · intro w hSw
                (try dsimp only at hSw)
                go_simp
                all_goals with_reducible rfl
              try simp only [Act.put, List.setIfInBounds_toArray, List.set_cons_zero, List.set_cons_succ]
              refine wpAnyH_take (i := 4) (v := ?_) rfl (by kernel_rfl) (by kernel_rfl) (by kernel_rfl) (fun _ _ _ h => h) (Or.inl ⟨by rfl, ?_⟩) (by assumption) ?_
              rotate_left
              · intro w hSw
                (try dsimp only at hSw)
                go_simp
                all_goals with_reducible rfl
              try simp only [Act.put, List.setIfInBounds_toArray, List.set_cons_zero, List.set_cons_succ]
              refine wpAnyH_take (i := 5) (v := ?_) rfl (by kernel_rfl) (by kernel_rfl) (by kernel_rfl) (fun _ _ _ h => h) (Or.inl ⟨by rfl, ?_⟩) (by assumption) ?_
              rotate_left
              · intro w hSw
                (try dsimp only at hSw)
                go_simp
                all_goals with_reducible rfl
              try simp only [Act.put, List.setIfInBounds_toArray, List.set_cons_zero, List.set_cons_succ]
              refine wpAnyH_take (i := 6) (v := ?_) rfl (by kernel_rfl) (by kernel_rfl) (by kernel_rfl) (fun _ _ _ h => h) (Or.inl ⟨by rfl, ?_⟩) (by assumption) ?_
              rotate_left
              · intro w hSw
                (try dsimp only at hSw)
                go_simp
                all_goals with_reducible rfl
              try simp only [Act.put, List.setIfInBounds_toArray, List.set_cons_zero, List.set_cons_succ]
              refine wpAnyH_take (i := 7) (v := ?_) rfl (by kernel_rfl) (by kernel_rfl) (by kernel_rfl) (fun _ _ _ h => h) (Or.inl ⟨by rfl, ?_⟩) (by assumption) ?_
              rotate_left
              · intro w hSw
                (try dsimp only at hSw)
                go_simp
                all_goals with_reducible rfl
              try simp only [Act.put, List.setIfInBounds_toArray, List.set_cons_zero, List.set_cons_succ]
              refine wpAnyH_take (i := 8) (v := ?_) rfl (by kernel_rfl) (by kernel_rfl) (by kernel_rfl) (fun _ _ _ h => h) (Or.inl ⟨by rfl, ?_⟩) (by assumption) ?_
              rotate_left
              · intro w hSw
                (try dsimp only at hSw)
                go_simp
                all_goals with_reducible rfl
              try simp only [Act.put, List.setIfInBounds_toArray, List.set_cons_zero, List.set_cons_succ]
              refine wpAnyH_take (i := 9) (v := ?_) rfl (by kernel_rfl) (by kernel_rfl) (by kernel_rfl) (fun _ _ _ h => h) (Or.inl ⟨by rfl, ?_⟩) (by assumption) ?_
              rotate_left
              · intro w hSw
                (try dsimp only at hSw)
                go_simp
                all_goals with_reducible rfl
              try simp only [Act.put, List.setIfInBounds_toArray, List.set_cons_zero, List.set_cons_succ]
              refine wpAnyH_take (i := 10) (v := ?_) rfl (by kernel_rfl) (by kernel_rfl) (by kernel_rfl) (fun _ _ _ h => h) (Or.inl ⟨by rfl, ?_⟩) (by assumption) ?_
              rotate_left
              · intro w hSw
                (try dsimp only at hSw)
                go_simp
                all_goals with_reducible rfl
              try simp only [Act.put, List.setIfInBounds_toArray, List.set_cons_zero, List.set_cons_succ]
              refine wpAnyH_take (i := 11) (v := ?_) rfl (by kernel_rfl) (by kernel_rfl) (by kernel_rfl) (fun _ _ _ h => h) (Or.inl ⟨by rfl, ?_⟩) (by assumption) ?_
              rotate_left
              · intro w hSw
                (try dsimp only at hSw)
                go_simp
                all_goals with_reducible rfl
              try simp only [Act.put, List.setIfInBounds_toArray, List.set_cons_zero, List.set_cons_succ]
              refine wpAnyH_take (i := 12) (v := ?_) rfl (by kernel_rfl) (by kernel_rfl) (by kernel_rfl) (fun _ _ _ h => h) (Or.inl ⟨by rfl, ?_⟩) (by assumption) ?_
              rotate_left
              · intro w hSw
                (try dsimp only at hSw)
                go_simp
                all_goals with_reducible rfl
              try simp only [Act.put, List.setIfInBounds_toArray, List.set_cons_zero, List.set_cons_succ]
              refine wpAnyH_take (i := 14) (v := ?_) rfl (by kernel_rfl) (by kernel_rfl) (by kernel_rfl) (fun _ _ _ h => h) (Or.inl ⟨by rfl, ?_⟩) (by assumption) ?_
              rotate_left
              · intro w hSw
                (try dsimp only at hSw)
                go_simp
                all_goals with_reducible rfl
              try simp only [Act.put, List.setIfInBounds_toArray, List.set_cons_zero, List.set_cons_succ]
              refine wpAnyH_ready (rs := [13, 15]) (by kernel_rfl) (by simp) ?_
              refine AllReadyH.cons rfl (fun K hK => ?_) ?_
              · go_simp
                refine hK.out _ _ (by (try dsimp only); go_keep) (fun hHeld => ?_)
                clear hK K
                try simp only [Act.put, List.setIfInBounds_toArray, List.set_cons_zero, List.set_cons_succ]
                refine wpAnyH_ready (rs := [15]) (by kernel_rfl) (by simp) ?_
                refine AllReadyH.cons rfl (fun K hK => ?_) ?_
                · go_simp
                  refine hK.out _ _ (by (try dsimp only); go_keep) (fun hHeld => ?_)
                  clear hK K
                  try simp only [Act.put, List.setIfInBounds_toArray, List.set_cons_zero, List.set_cons_succ]
                  refine wpAnyH_ready (rs := [16]) (by kernel_rfl) (by simp) ?_
                  refine AllReadyH.cons rfl (fun K hK => ?_) ?_
                  · refine step_append_run rfl _ _ 30 30 rfl _ _ rfl rfl hrun5 ?_
                    refine hK.out _ _ (by (try dsimp only); go_keep) (fun hHeld => ?_)
                    clear hK K
                    try simp only [Act.put, List.setIfInBounds_toArray, List.set_cons_zero, List.set_cons_succ]
                    refine wpAnyH_take (i := 17) (v := ?_) rfl (by kernel_rfl) (by kernel_rfl) (by kernel_rfl) (fun _ _ _ h => h) (Or.inl ⟨by rfl, ?_⟩) (by assumption) ?_
                    rotate_left
                    · intro w hSw
                      (try dsimp only at hSw)
                      go_simp
                      all_goals with_reducible rfl
                    try simp only [Act.put, List.setIfInBounds_toArray, List.set_cons_zero, List.set_cons_succ]
                    refine wpAnyH_ready (rs := [18]) (by kernel_rfl) (by simp) ?_
                    refine AllReadyH.cons rfl (fun K hK => ?_) ?_
                    · go_simp
                      refine hK.out _ _ (by (try dsimp only); go_keep) (fun hHeld => ?_)
                      clear hK K
                      try simp only [Act.put, List.setIfInBounds_toArray, List.set_cons_zero, List.set_cons_succ]
                      refine wpAnyH_done (by kernel_rfl) ?_ _
                      obtain ⟨q1, q2⟩ := G4.out.appBack ht hal5 hown5 hgr5 hdis5 (Nat.le_trans hB B4.out.size)
                      have G5 := hid q1
                      have B5 := hid (B4.out.trans q2)
                      have X5 : (w5.setCell ⟨bb, t, none⟩ (.slice (some ⟨gp5, 0, none⟩) nl5 cp5)).heap[w.heap.size]? = _ := ((Below.heap_setCell w5 ⟨bb, t, none⟩ _ w.heap.size hbo5).trans (hne5 _ (.inr (.inr rfl)))).trans HX4.out
                      have HX5 := hid X5
                      clear q1 q2 X5 gc5 gd5 r5 rb5 rr5 rc5 rf5 sg5 e50 f50 s50 e51 f51 s51 e52 f52 s52 hal5 hrun5 hown5 hgr5 hdis5 hne5 hgo5 hbo5 hfi5 hx5 hg5 hoa5 hob5 hoc5 hHeld
                      obtain ⟨u5, hu5⟩ : ∃ u, w5.setCell ⟨bb, t, none⟩ (.slice (some ⟨gp5, 0, none⟩) nl5 cp5) = u := ⟨_, rfl⟩
                      rw [hu5] at G5 B5 HX5 ⊢
                      clear hu5
                      go_wp2_with fail
                      go_ret
                      have G6 := G5.out.gr (fun i hi => (rowE_add es N f t lab hf i hi).symm) H0.out.ok ⟨by simp, by simp; omega, by simp, by simp; omega, by simp; omega, by simp; omega⟩ (by have := hF.out; omega) hnn
                      rw [show es ++ [E.mk (f : Int) (t : Int) lab] = addE N es ⟨(f : Int), (t : Int), lab⟩ from by unfold addE; rw [if_pos HC.out]] at G6
                      exact ⟨by rw [HC.out]; rfl, mb, ob, bb, _, _, _, G6, B5.out⟩
                    exact AllReadyH.nil
                  exact AllReadyH.nil
                exact AllReadyH.nil
              refine AllReadyH.cons rfl (fun K hK => ?_) ?_
              · go_simp
                refine hK.out _ _ (by (try dsimp only); go_keep) (fun hHeld => ?_)
                clear hK K
                try simp only [Act.put, List.setIfInBounds_toArray, List.set_cons_zero, List.set_cons_succ]
                refine wpAnyH_ready (rs := [13]) (by kernel_rfl) (by simp) ?_
                refine AllReadyH.cons rfl (fun K hK => ?_) ?_
                · go_simp
                  refine hK.out _ _ (by (try dsimp only); go_keep) (fun hHeld => ?_)
                  clear hK K
                  try simp only [Act.put, List.setIfInBounds_toArray, List.set_cons_zero, List.set_cons_succ]
                  refine wpAnyH_ready (rs := [16]) (by kernel_rfl) (by simp) ?_
                  refine AllReadyH.cons rfl (fun K hK => ?_) ?_
                  · refine step_append_run rfl _ _ 30 30 rfl _ _ rfl rfl hrun5 ?_
                    refine hK.out _ _ (by (try dsimp only); go_keep) (fun hHeld => ?_)
                    clear hK K
                    try simp only [Act.put, List.setIfInBounds_toArray, List.set_cons_zero, List.set_cons_succ]
                    refine wpAnyH_take (i := 17) (v := ?_) rfl (by kernel_rfl) (by kernel_rfl) (by kernel_rfl) (fun _ _ _ h => h) (Or.inl ⟨by rfl, ?_⟩) (by assumption) ?_
                    rotate_left
                    · intro w hSw
                      (try dsimp only at hSw)
                      go_simp
                      all_goals with_reducible rfl
                    try simp only [Act.put, List.setIfInBounds_toArray, List.set_cons_zero, List.set_cons_succ]
                    refine wpAnyH_ready (rs := [18]) (by kernel_rfl) (by simp) ?_
                    refine AllReadyH.cons rfl (fun K hK => ?_) ?_
                    · go_simp
                      refine hK.out _ _ (by (try dsimp only); go_keep) (fun hHeld => ?_)
                      clear hK K
                      try simp only [Act.put, List.setIfInBounds_toArray, List.set_cons_zero, List.set_cons_succ]
                      refine wpAnyH_done (by kernel_rfl) ?_ _
                      obtain ⟨q1, q2⟩ := G4.out.appBack ht hal5 hown5 hgr5 hdis5 (Nat.le_trans hB B4.out.size)
                      have G5 := hid q1
                      have B5 := hid (B4.out.trans q2)
                      have X5 : (w5.setCell ⟨bb, t, none⟩ (.slice (some ⟨gp5, 0, none⟩) nl5 cp5)).heap[w.heap.size]? = _ := ((Below.heap_setCell w5 ⟨bb, t, none⟩ _ w.heap.size hbo5).trans (hne5 _ (.inr (.inr rfl)))).trans HX4.out
                      have HX5 := hid X5
                      clear q1 q2 X5 gc5 gd5 r5 rb5 rr5 rc5 rf5 sg5 e50 f50 s50 e51 f51 s51 e52 f52 s52 hal5 hrun5 hown5 hgr5 hdis5 hne5 hgo5 hbo5 hfi5 hx5 hg5 hoa5 hob5 hoc5 hHeld
                      obtain ⟨u5, hu5⟩ : ∃ u, w5.setCell ⟨bb, t, none⟩ (.slice (some ⟨gp5, 0, none⟩) nl5 cp5) = u := ⟨_, rfl⟩
                      rw [hu5] at G5 B5 HX5 ⊢
                      clear hu5
                      go_wp2_with fail
                      go_ret
                      have G6 := G5.out.gr (fun i hi => (rowE_add es N f t lab hf i hi).symm) H0.out.ok ⟨by simp, by simp; omega, by simp, by simp; omega, by simp; omega, by simp; omega⟩ (by have := hF.out; omega) hnn
                      rw [show es ++ [E.mk (f : Int) (t : Int) lab] = addE N es ⟨(f : Int), (t : Int), lab⟩ from by unfold addE; rw [if_pos HC.out]] at G6
                      exact ⟨by rw [HC.out]; rfl, mb, ob, bb, _, _, _, G6, B5.out⟩
                    exact AllReadyH.nil
                  exact AllReadyH.nil
                exact AllReadyH.nil
              exact AllReadyH.nil
            exact AllReadyH.nil
          exact AllReadyH.nil
        exact AllReadyH.nil
      exact AllReadyH.nil
theorem add_any (h : Gr B w g N es mb ob bb oc bc vs) (x : E) (hB : B ≤ w.heap.size) : Calls Try.prog 12 #[.pointer (some ⟨g, 0, none⟩), x.agg] w (AddPost B w g N es x) := by
  by_cases hok : okE N x
  · obtain ⟨xf, xt, xl⟩ := x
    obtain ⟨a1, a2, a3, a4, a5, a6⟩ := hok
    simp only at a1 a2 a3 a4 a5 a6
    obtain ⟨f, rfl⟩ := Int.eq_ofNat_of_zero_le a1
    obtain ⟨t, rfl⟩ := Int.eq_ofNat_of_zero_le a3
    exact add_ok h f t xl (by omega) (by omega) (by omega) (by omega) hB
  · exact add_bad h x hB hok
end
end Go.Proofs.Ytbbfbkoanbdghaa
