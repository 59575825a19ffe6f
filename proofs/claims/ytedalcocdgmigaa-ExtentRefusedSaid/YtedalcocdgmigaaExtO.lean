/- The walk of ExtentMemory. No statement is proved here. -/
import Derived.Test.YtedalcocdgmigaaExtN
import Derived.Test.YtedalcocdgmigaaExtP
import Derived.Test.YtedalcocdgmigaaRowB
set_option linter.unusedVariables false
set_option linter.unusedSimpArgs false
namespace Go.Proofs.Ytedalcocdgmigaa
open Go.RowKit

theorem own_below {w w' : World} {v : Value} {n : Nat} {xs : List Value} (h : w.ownsRow 0 31 2 v n xs) (hb : Below w.heap.size w w') : w'.ownsRow 0 31 2 v n xs := by
  refine ⟨h.1, ?_⟩
  rcases h.2 with hh | ⟨g0, cap0, cur, hv0, k0, hg, rest⟩
  · exact .inl hh
  · exact .inr ⟨g0, cap0, cur, hv0, k0, (hb.block g0 (blk_lt hg)).trans hg, rest⟩
theorem own_upd {S : Nat → Prop} {w w' : World} {g m cap : Nat} {n : Nat} {xs : List Value} (h : w.ownsRow 0 31 2 (.slice (some ⟨g, 0, none⟩) m cap) n xs) (hb : Upd S w w') (hs : ¬ S g) : w'.ownsRow 0 31 2 (.slice (some ⟨g, 0, none⟩) m cap) n xs := by
  refine ⟨h.1, ?_⟩
  rcases h.2 with hh | ⟨g0, cap0, cur, hv0, k0, hg, rest⟩
  · exact .inl hh
  · have e : g = g0 := by simp at hv0; exact hv0.1
    subst e
    exact .inr ⟨g, cap0, cur, hv0, k0, (hb.block g (blk_lt hg) hs).trans hg, rest⟩
/-- An own slice's cells. -/
theorem own_cells {w : World} {g m cap : Nat} {hs : List (Int × Int)} (h : w.ownsRow 0 31 2 (.slice (some ⟨g, 0, none⟩) m cap) hs.length (cells2 hs)) :
    g < w.heap.size ∧ (∀ i, w.frozen? ⟨g, i, none⟩ = false) ∧ ∀ i (hi : i < hs.length), w.cell? ⟨g, i * 2, none⟩ = some (.int .i64 (hs[i]).1) ∧ w.cell? ⟨g, i * 2 + 1, none⟩ = some (.int .i64 (hs[i]).2) := by
  rcases h.2 with ⟨hh, _⟩ | ⟨g0, cap0, cur, hv0, k0, hg, rest⟩
  · simp at hh
  · have e : g = g0 := by simp at hv0; exact hv0.1
    subst e
    refine ⟨blk_lt hg, fun i => blk_free hg i, fun i hi => ⟨?_, ?_⟩⟩
    · have := h.cells (g := g) rfl (i * 2) _ (cells2_get0 hs i hi)
      rwa [Addr.add_lit, Nat.zero_add] at this
    · have := h.cells (g := g) rfl (i * 2 + 1) _ (cells2_get1 hs i hi)
      rwa [Addr.add_lit, Nat.zero_add] at this
/-- A pair is stored into an own slice. -/
theorem own_store {w : World} {g m cap : Nat} {hs : List (Int × Int)} (k : Nat) (a b : Int) (h : w.ownsRow 0 31 2 (.slice (some ⟨g, 0, none⟩) m cap) hs.length (cells2 hs)) :
    ((w.setCell ⟨g, k * 2, none⟩ (.int .i64 a)).setCell ⟨g, k * 2 + 1, none⟩ (.int .i64 b)).ownsRow 0 31 2 (.slice (some ⟨g, 0, none⟩) m cap) (hs.set k (a, b)).length (cells2 (hs.set k (a, b))) := by
  rcases h.2 with ⟨hh, _⟩ | ⟨g0, cap0, cur, hv0, k0, hg, h1, h2, h3, h4⟩
  · simp at hh
  · have e : g = g0 ∧ m = hs.length ∧ cap = cap0 := by simp at hv0; omega
    obtain ⟨rfl, rfl, rfl⟩ := e
    refine ⟨cells2_length _, .inr ⟨g, cap, (cur.setIfInBounds (k * 2) (.int .i64 a)).setIfInBounds (k * 2 + 1) (.int .i64 b), by rw [List.length_set], k0, ?_, by rw [List.length_set]; exact h1, h2, by simpa using h3, ?_⟩⟩
    · exact heap_setCell_same _ g _ _ _ _ (heap_setCell_same w g _ _ _ _ hg)
    · rw [Array.toList_setIfInBounds, Array.toList_setIfInBounds, List.take_set, List.take_set, List.length_set, h4, cells2_setpair]

/-- Two more are appended to a marked own slice. -/
theorem app_mark (w : World) (g cap n : Nat) (v x : Int) (fl : List (Int × Int)) (hn : fl.length = n) (own : w.ownsRow 0 31 2 (.slice (some ⟨g, 0, none⟩) n cap) fl.length (cells2 fl)) (hv : ∀ i (h : i < fl.length), (fl[i]).1 = v) (hs : n ≤ 1000) :
    ∃ w5 gc cc, (Builtin.append_ #[32, 32] 32 #[.slice (some ⟨g, 0, none⟩) n cap, .slice (some ⟨w.heap.size, 0, none⟩) 2 2]).run Try.prog (w.alloc (.cells #[.int .i64 x, .int .i64 0, .int .i64 x, .int .i64 0] 31)) = .ok (.slice (some ⟨gc, 0, none⟩) (n + 2) cc) w5 ∧
      (gc = g ∨ w.heap.size ≤ gc) ∧ (∀ i, i < n → w5.cell? ⟨g, i * 2, none⟩ = some (.int .i64 v)) ∧ (∀ i, i < n → w5.cell? ⟨gc, i * 2, none⟩ = some (.int .i64 v)) ∧ w5.cell? ⟨gc, n * 2, none⟩ = some (.int .i64 x) ∧ Upd (fun k => k = g) w w5 ∧ gc < w5.heap.size := by
  have hnew := heap_alloc_new w (.cells #[.int .i64 x, .int .i64 0, .int .i64 x, .int .i64 0] 31)
  have hcl : ∀ j u, (cells2 [(x, 0), (x, 0)])[j]? = some u → (w.alloc (.cells #[.int .i64 x, .int .i64 0, .int .i64 x, .int .i64 0] 31)).cell? ((⟨w.heap.size, 0, none⟩ : Addr).add j) = some u := by
    intro j u hj
    rw [Addr.add_lit, blk_cell hnew]
    match j, hj with
    | 0, hj => simpa [cells2] using hj
    | 1, hj => simpa [cells2] using hj
    | 2, hj => simpa [cells2] using hj
    | 3, hj => simpa [cells2] using hj
    | j + 4, hj => simp [cells2] at hj
  have ownA := own.alloc (.cells #[.int .i64 x, .int .i64 0, .int .i64 x, .int .i64 0] 31)
  obtain ⟨v', w5, hrun, hown, hgr, hdis⟩ := run_append_E3 (w.alloc (.cells #[.int .i64 x, .int .i64 0, .int .i64 x, .int .i64 0] 31)) 32 (.slice (some ⟨g, 0, none⟩) n cap) fl [(x, 0), (x, 0)] ownA w.heap.size 0 2 hcl (by rw [hn]; simp; omega)
  obtain ⟨gc, cc, rfl⟩ := own_slice hown (by simp)
  have hlen : (fl ++ [(x, 0), (x, 0)]).length = n + 2 := by simp [hn]
  rw [hlen] at hown hrun hdis
  have hown' : w5.ownsRow 0 31 2 (.slice (some ⟨gc, 0, none⟩) (n + 2) cc) (fl ++ [(x, 0), (x, 0)]).length (cells2 (fl ++ [(x, 0), (x, 0)])) := by rw [hlen]; exact hown
  obtain ⟨hcl5, _, hcells⟩ := own_cells hown'
  have hcc : ∀ i, i < n → w5.cell? ⟨gc, i * 2, none⟩ = some (.int .i64 v) := fun i hi => by
    have := (hcells i (by rw [hlen]; omega)).1
    rw [List.getElem_append_left (by omega), hv i (by omega)] at this
    exact this
  have hu : Upd (fun k => k = g) w w5 := by
    have h1 : Upd (fun k => k = g) w (w.alloc (.cells #[.int .i64 x, .int .i64 0, .int .i64 x, .int .i64 0] 31)) := (Upd.refl _ _).alloc _
    exact h1.trans (Upd.of_grown hgr) (fun i _ hi => by simpa [Value.ownBlock, eq_comm] using hi)
  refine ⟨w5, gc, cc, hrun, ?_, ?_, hcc, ?_, hu, hcl5⟩
  · rcases hdis with h | ⟨h, _⟩ <;> simp [Value.ownBlock] at h <;> omega
  · intro i hi
    rcases hdis with h | ⟨_, hgn⟩
    · have : gc = g := by simpa [Value.ownBlock] using h
      subst this
      exact hcc i hi
    · have hk := ownA.kept hgn (.inr (by simp [Value.ownBlock]))
      have := (own_cells hk).2.2 i (by omega)
      rw [hv i (by omega)] at this
      exact this.1
  · have := (hcells n (by rw [hlen]; omega)).1
    rw [List.getElem_append_right (by omega)] at this
    simpa [hn] using this

set_option maxHeartbeats 4000000 in
set_option maxRecDepth 100000 in
theorem memory_walk (n : Int) (w : World) :
    Calls Try.prog 4 #[.int .i64 n] w fun e w' => e = .returned (.bool true) ∧ Below w.heap.size w w' := by
  by_cases hn1 : n < 2
  · go_enter Try.func4, Try.ntmps4
    go_wp2_with fail
    refine (anchor_any _).mono ?_
    rintro e w1 ⟨rfl, hb1⟩
    go_wp2_with fail
    go_ret
    exact ⟨rfl, hb1⟩
  by_cases hn2 : 100 < n
  · go_enter Try.func4, Try.ntmps4
    go_wp2_with fail
    refine (anchor_any _).mono ?_
    rintro e w1 ⟨rfl, hb1⟩
    go_wp2_with fail
    go_ret
    exact ⟨rfl, hb1⟩
  obtain ⟨N, rfl⟩ := Int.eq_ofNat_of_zero_le (show 0 ≤ n by omega)
  have hN1 : (2 : Int) ≤ (N : Int) := by omega
  have hN2 : (N : Int) ≤ 100 := by omega
  clear hn1 hn2
  go_enter Try.func4, Try.ntmps4
  go_wp2_with fail
  refine (anchor_any _).mono ?_
  rintro e w1 ⟨rfl, hb1⟩
  go_wp2_with fail
  refine (new_good (2 * (N : Int) + 1) _ (by omega) (by omega)).mono ?_
  rintro e w2 ⟨p, o, rfl, hsp, hp, ho, hb2⟩
  have hb2' : Below w.heap.size w w2 := hb1.trans (hb2.mono hb1.size)
  have hnw : SpNew w.heap.size p o := ⟨Nat.le_trans hb1.size hp, fun k hk => Nat.le_trans hb1.size (ho k hk)⟩
  have Hsp := hid hsp
  have Hnw := hid hnw
  clear hsp ho hp hb1 hb2 hnw
  go_wp2_with fail
  go_loopw [5] (fun i wr => ∃ (k : Nat) (o' : Option Nat) (hs : List (Int × Int)), k ≤ N ∧ i = .int .i64 k ∧ Hid (Sp wr p o' (2 * (N : Int) + 1) hs) ∧ Hid (∀ x, freeB hs x = memF N k x) ∧ Hid (SpNew w.heap.size p o') ∧ Below w.heap.size w wr) (fun i _ => N - (intOf i).toNat)
  case atStart => exact ⟨0, o, _, Nat.zero_le _, rfl, Hsp, hid (fun x => by rw [memF_zero]; rfl), Hnw, hb2'⟩
  case round =>
    obtain ⟨k, o', hs, hk, rfl, Hs, Hf, Hn, hbel⟩ := hrel
    by_cases hlt : k < N
    · go_wp2_with fail
      refine (take_any p o' (2 * (N : Int) + 1) (2 * (k : Int) + 1) 1 hs wr Hs.out).mono ?_
      have hins : insideB (2 * (N : Int) + 1) (2 * (k : Int) + 1) 1 = true := by simp [insideB]; omega
      rintro e w3 (⟨h1, _⟩ | ⟨_, ⟨x, hx1, hx2, hx3⟩, _⟩ | ⟨_, hall, hs', hok', hfr', rfl, o3, hsp3, hst3⟩)
      · rw [hins] at h1; cases h1
      · have hx : x = 2 * (k : Int) + 1 := by omega
        rw [Hf.out, hx, memF_at N k hlt] at hx3; cases hx3
      · obtain ⟨hn3, hb3⟩ := Hn.out.step hst3 hbel.size
        have Hs3 := hid hsp3
        have Hn3 := hid hn3
        have hb3' := hbel.trans hb3
        have Hf3 : Hid (∀ x, freeB hs' x = memF N (k + 1) x) := hid fun x => by rw [hfr', Hf.out, memF_step]
        clear hsp3 hst3 hn3 hall hok' hfr' hins hbel hb3
        go_wp2_with fail
        exact ⟨⟨k + 1, o3, hs', by omega, by go_num, Hs3, Hf3, Hn3, hb3'⟩, by simp [intOf]; omega⟩
    · have hkN : k = N := by omega
      have Hev := hid (memF_end Hs.out.ok (by rw [← hkN]; rw [hkN] at Hf ⊢; exact Hf.out))
      obtain ⟨L, hL⟩ : ∃ L, L = hs.length := ⟨_, rfl⟩
      have hLN : L = N + 1 := by rw [hL, Hev.out, evensFrom_length]
      have HL := hid hL
      clear hL hkN
      go_wp2_with fail
      refine (holes_any p o' _ hs wr Hs.out).mono ?_
      rintro e w3 ⟨ga, ca, rfl, owna, hga, hb3⟩
      have Hs3 := hid (Hs.out.below hb3)
      have hb3' := hbel.trans (hb3.mono hbel.size)
      have Hga := hid (show w3.ownsRow 0 31 2 (.slice (some ⟨ga, 0, none⟩) (N + 1) ca) hs.length (cells2 hs) by rw [← hLN, HL.out]; exact owna)
      rw [← HL.out, hLN]
      have Hpo := hid Hs.out.lt
      clear owna
      go_wp2_with fail
      refine (holes_any p o' _ hs w3 Hs3.out).mono ?_
      rintro e w4 ⟨gb, cb, rfl, ownb, hgb, hb4⟩
      have Hs4 := hid (Hs3.out.below hb4)
      have hb4' := hb3'.trans (hb4.mono hb3'.size)
      have Hgb := hid (show w4.ownsRow 0 31 2 (.slice (some ⟨gb, 0, none⟩) (N + 1) cb) hs.length (cells2 hs) by rw [← hLN, HL.out]; exact ownb)
      rw [← HL.out, hLN]
      have Hga4 := hid (own_below Hga.out hb4)
      have hgal : ga < w3.heap.size := by
        have := Hga.out
        rcases this.2 with ⟨hh, _⟩ | ⟨g0, cap0, cur, hv0, k0, hg, rest⟩
        · simp at hh
        · have e : ga = g0 := by simp at hv0; exact hv0.1
          rw [e]; exact blk_lt hg
      have hab : ga < gb := by omega
      have hwa : w.heap.size ≤ ga := Nat.le_trans hbel.size hga
      have hpa : p < ga ∧ ∀ k, o' = some k → k < ga := ⟨Nat.lt_of_lt_of_le Hpo.out.1 hga, fun k hk => Nat.lt_of_lt_of_le (Hpo.out.2 k hk) hga⟩
      have Hpa := hid hpa
      clear ownb hb3 hb4 hb3' hgb hga hgal Hs3 Hga Hpo hpa hb2' Hsp Hs hbel
      go_wp2_with fail
      go_loopw [67] (fun i wr => ∃ (k : Nat), k ≤ N + 1 ∧ i = .int .i64 k ∧ Hid (wr.ownsRow 0 31 2 (.slice (some ⟨ga, 0, none⟩) (N + 1) ca) (fillTo (-1) k hs).length (cells2 (fillTo (-1) k hs))) ∧ Hid (wr.ownsRow 0 31 2 (.slice (some ⟨gb, 0, none⟩) (N + 1) cb) hs.length (cells2 hs)) ∧ Hid (Sp wr p o' (2 * (N : Int) + 1) hs) ∧ Below w.heap.size w wr) (fun i _ => N + 1 - (intOf i).toNat)
      case atStart => exact ⟨0, Nat.zero_le _, rfl, Hga4, Hgb, Hs4, hb4'⟩
      case round =>
        obtain ⟨k, hk, rfl, Ha, Hb, Hs, hbel⟩ := hrel
        by_cases hlt : k < N + 1
        · obtain ⟨gl, gf, gc⟩ := own_cells Ha.out
          obtain ⟨q0, q1⟩ := gc k (by rw [fillTo_length, ← HL.out, hLN]; exact hlt)
          have f0 := gf (k * 2)
          have f1 := gf (k * 2 + 1)
          have Ha2 := hid (own_store k (-1) (k : Int) Ha.out)
          have hu := ((Upd.refl (fun j => j = ga) wr).setCell (p := ⟨ga, k * 2, none⟩) (fun _ => rfl) (.int .i64 (-1))).setCell (p := ⟨ga, k * 2 + 1, none⟩) (fun _ => rfl) (.int .i64 (k : Int))
          have Hb2 := hid (own_upd Hb.out hu (by omega))
          have Hs2 := hid (Hs.out.upd hu (by have := Hpa.out.1; omega) (fun j hj => by have := Hpa.out.2 j hj; omega))
          have Hbel := hid ((hbel.setCell (p := ⟨ga, k * 2, none⟩) hwa (.int .i64 (-1))).setCell (p := ⟨ga, k * 2 + 1, none⟩) hwa (.int .i64 (k : Int)))
          clear gf gc hu hbel
          go_wp2_with fail
          exact ⟨⟨k + 1, by omega, by go_num, Ha2, Hb2, Hs2, Hbel.out⟩, by simp [intOf]; omega⟩
        · have hkN : k = N + 1 := by omega
          subst hkN
          clear Hgb Hga4 hb4' Hs4
          have Hfa := hid (show ∀ i (h : i < (fillTo (-1) (N + 1) hs).length), i < N + 1 → (fillTo (-1) (N + 1) hs)[i] = (-1, (i : Int)) from fun i h1 h2 => fillTo_get (-1) (N + 1) hs i h1 h2)
          have Hfl := hid (show (fillTo (-1) (N + 1) hs).length = N + 1 by rw [fillTo_length, ← HL.out, hLN])
          generalize fillTo (-1) (N + 1) hs = fa at *
          go_wp2_with fail
          go_loopw [78] (fun i wr => ∃ (k : Nat), k ≤ N + 1 ∧ i = .int .i64 k ∧ Hid (wr.ownsRow 0 31 2 (.slice (some ⟨ga, 0, none⟩) (N + 1) ca) fa.length (cells2 fa)) ∧ Hid (wr.ownsRow 0 31 2 (.slice (some ⟨gb, 0, none⟩) (N + 1) cb) (fillTo (-2) k hs).length (cells2 (fillTo (-2) k hs))) ∧ Hid (Sp wr p o' (2 * (N : Int) + 1) hs) ∧ Below w.heap.size w wr) (fun i _ => N + 1 - (intOf i).toNat)
          case atStart => exact ⟨0, Nat.zero_le _, rfl, Ha, Hb, Hs, hbel⟩
          case round =>
            clear Ha Hb Hs hbel
            obtain ⟨k, hk, rfl, Ha, Hb, Hs, hbel⟩ := hrel
            by_cases hlt : k < N + 1
            · obtain ⟨gl, gf, gc⟩ := own_cells Hb.out
              obtain ⟨q0, q1⟩ := gc k (by rw [fillTo_length, ← HL.out, hLN]; exact hlt)
              have f0 := gf (k * 2)
              have f1 := gf (k * 2 + 1)
              have Hb2 := hid (own_store k (-2) (k : Int) Hb.out)
              have hu := ((Upd.refl (fun j => j = gb) wr).setCell (p := ⟨gb, k * 2, none⟩) (fun _ => rfl) (.int .i64 (-2))).setCell (p := ⟨gb, k * 2 + 1, none⟩) (fun _ => rfl) (.int .i64 (k : Int))
              have Ha2 := hid (own_upd Ha.out hu (by omega))
              have Hs2 := hid (Hs.out.upd hu (by have := Hpa.out.1; omega) (fun j hj => by have := Hpa.out.2 j hj; omega))
              have hwb : w.heap.size ≤ gb := by omega
              have Hbel := hid ((hbel.setCell (p := ⟨gb, k * 2, none⟩) hwb (.int .i64 (-2))).setCell (p := ⟨gb, k * 2 + 1, none⟩) hwb (.int .i64 (k : Int)))
              clear gf gc hu hbel
              go_wp2_with fail
              exact ⟨⟨k + 1, by omega, by go_num, Ha2, Hb2, Hs2, Hbel.out⟩, by simp [intOf]; omega⟩
            · have hkN : k = N + 1 := by omega
              subst hkN
              have Hfb := hid (show ∀ i (h : i < (fillTo (-2) (N + 1) hs).length), i < N + 1 → (fillTo (-2) (N + 1) hs)[i] = (-2, (i : Int)) from fun i h1 h2 => fillTo_get (-2) (N + 1) hs i h1 h2)
              have Hfbl := hid (show (fillTo (-2) (N + 1) hs).length = N + 1 by rw [fillTo_length, ← HL.out, hLN])
              generalize fillTo (-2) (N + 1) hs = fb at *
              obtain ⟨w5, gc, cc, hrunc, hgc, hca, hcc, hcx, hu5, hcl⟩ := app_mark wr ga ca (N + 1) (-1) (-3) fa Hfl.out Ha.out (fun i h => by rw [Hfa.out i h (by rw [← Hfl.out]; exact h)]) (by omega)
              have Hb5 := hid (own_upd Hb.out hu5 (by omega))
              have Hs5 := hid (Hs.out.upd hu5 (by have := Hpa.out.1; omega) (fun j hj => by have := Hpa.out.2 j hj; omega))
              have hb5 : Below w.heap.size w w5 := hbel.trans (hu5.below hbel.size (fun k hk => by omega))
              have hgal := (own_cells Ha.out).1
              have hgbl := (own_cells Hb.out).1
              obtain ⟨w6, gd, cd, hrund, hgd, hda, hdc, hdx, hu6, hdl⟩ := app_mark w5 gb cb (N + 1) (-2) (-4) fb Hfbl.out Hb5.out (fun i h => by rw [Hfb.out i h (by rw [← Hfbl.out]; exact h)]) (by omega)
              have Hs6 := hid (Hs5.out.upd hu6 (by have := Hpa.out.1; omega) (fun j hj => by have := Hpa.out.2 j hj; omega))
              have hwb : w.heap.size ≤ gb := by omega
              have h56 := hu6.size
              have hb6 : Below w.heap.size w w6 := hb5.trans (hu6.below hb5.size (fun k hk => by omega))
              have hgcb : gc ≠ gb := by omega
              have hca6 : ∀ i, i < N + 1 → w6.cell? ⟨ga, i * 2, none⟩ = some (.int .i64 (-1)) := fun i hi => (hu6.cell (p := ⟨ga, i * 2, none⟩) (Nat.lt_of_lt_of_le hgal hu5.size) (by simp only; omega)).trans (hca i hi)
              have hcc6 : ∀ i, i < N + 1 → w6.cell? ⟨gc, i * 2, none⟩ = some (.int .i64 (-1)) := fun i hi => (hu6.cell (p := ⟨gc, i * 2, none⟩) hcl (by simp only; omega)).trans (hcc i hi)
              have hcx6 : w6.cell? ⟨gc, (N + 1) * 2, none⟩ = some (.int .i64 (-3)) := (hu6.cell (p := ⟨gc, (N + 1) * 2, none⟩) hcl (by simp only; omega)).trans hcx
              have Hca6 := hid hca6
              have Hcc6 := hid hcc6
              have Hda := hid hda
              have Hdc := hid hdc
              clear hca hcc hcx hu5 hu6 hb5 hbel Ha Hb Hs Hb5 Hs5 Hfa Hfb Hfl Hfbl hgc hgd hca6 hcc6 hda hdc hgal hgbl
              go_wp2_with (first | (at_builtin; refine wpList_append_run _ rfl (.tmp 87) (.tmp 90) 32 32 rfl _ _ rfl rfl hrunc ?_) | (at_builtin; refine wpList_append_run _ rfl (.tmp 92) (.tmp 95) 32 32 rfl _ _ rfl rfl hrund ?_))
              clear hrunc hrund
              go_wp2_with fail
              go_loopw [12] (fun i wr => ∃ (k m : Nat), k ≤ N + 1 ∧ i = .int .i64 k ∧ wr = w6.drewN m) (fun i _ => N + 1 - (intOf i).toNat)
              case atStart => exact ⟨0, 0, Nat.zero_le _, rfl, rfl⟩
              case round =>
                obtain ⟨j, m, hj, rfl, rfl⟩ := hrel
                by_cases hjlt : j < N + 1
                · have q0 := Hca6.out j hjlt
                  have q1 := Hcc6.out j hjlt
                  have q2 := Hda.out j hjlt
                  have q3 := Hdc.out j hjlt
                  have hjN : (j : Int) ≤ (N : Int) := by omega
                  have hj0 : (j : Int) < (N : Int) + 1 := by omega
                  have hj2 : j < N + 1 + 2 := by omega
                  go_wp2_with fail
                  exact ⟨⟨j + 1, m, by omega, by go_num, rfl⟩, by simp [intOf]; omega⟩
                · have hjN : j = N + 1 := by omega
                  subst hjN
                  go_wp2_with fail
                  have hbm : Below w.heap.size w (w6.drewN m) := _root_.Go.Proofs.Ytedalcocdgmigaa.Below.drewN hb6 m
                  refine (holes_any p o' _ hs (w6.drewN m) (Hs6.out.below (_root_.Go.Proofs.Ytedalcocdgmigaa.Below.drewN (Below.refl _ _) m))).mono ?_
                  rintro e w7 ⟨gz, cz, rfl, ownz, hgz, hb7⟩
                  have Hgz := hid (show w7.ownsRow 0 31 2 (.slice (some ⟨gz, 0, none⟩) (N + 1) cz) hs.length (cells2 hs) by rw [← hLN, HL.out]; exact ownz)
                  rw [← HL.out, hLN]
                  have hb67 : Below w6.heap.size w6 w7 := ⟨hb7.os, hb7.tape, hb7.output, hb7.size, hb7.block⟩
                  have hbw7 : Below w.heap.size w w7 := hb6.trans (hb67.mono hb6.size)
                  have hcl6 : gc < w6.heap.size := Nat.lt_of_lt_of_le hcl h56
                  have hcx7 : w7.cell? ⟨gc, (N + 1) * 2, none⟩ = some (.int .i64 (-3)) := ((bcell hb67).1 gc _ hcl6).trans hcx6
                  have hdx7 : w7.cell? ⟨gd, (N + 1) * 2, none⟩ = some (.int .i64 (-4)) := ((bcell hb67).1 gd _ hdl).trans hdx
                  have hcl7 : gc < w7.heap.size := Nat.lt_of_lt_of_le hcl6 hb67.size
                  have hdl7 : gd < w7.heap.size := Nat.lt_of_lt_of_le hdl hb67.size
                  clear hcx6 hdx hb7 hb67 hbm hb6 Hca6 Hcc6 Hda Hdc Hs6 ownz hgz
                  go_wp2_with fail
                  go_loopw [136] (fun i wr => ∃ (k : Nat), k ≤ N + 1 ∧ i = .int .i64 k ∧ Below w7.heap.size w7 wr) (fun i _ => N + 1 - (intOf i).toNat)
                  case atStart => exact ⟨0, Nat.zero_le _, rfl, Below.refl _ _⟩
                  case round =>
                    obtain ⟨q, hq, rfl, hbr⟩ := hrel
                    by_cases hqlt : q < N + 1
                    · obtain ⟨gzl, _, gzc⟩ := own_cells (own_below Hgz.out hbr)
                      have hqL : q < hs.length := by rw [← HL.out, hLN]; exact hqlt
                      obtain ⟨q0, q1⟩ := gzc q hqL
                      have he : hs[q] = (2 * (q : Int), 1) := by
                        have := evensFrom_get (N + 1) 0 q (by rw [← Hev.out]; exact hqL)
                        rw [Nat.zero_add] at this
                        rw [← this]
                        congr 1
                      rw [he] at q0 q1
                      clear he gzc
                      have hqN : (q : Int) ≤ (N : Int) := by omega
                      go_wp2_with fail
                      exact ⟨⟨q + 1, by omega, by go_num, hbr.alloc hbr.size _⟩, by simp [intOf]; omega⟩
                    · have hqN : q = N + 1 := by omega
                      subst hqN
                      have c0 : wr.cell? ⟨gc, (N + 1) * 2, none⟩ = some (.int .i64 (-3)) := ((bcell hbr).1 gc _ hcl7).trans hcx7
                      have d0 : wr.cell? ⟨gd, (N + 1) * 2, none⟩ = some (.int .i64 (-4)) := ((bcell hbr).1 gd _ hdl7).trans hdx7
                      clear hcx7 hdx7
                      go_wp2_with fail
                      go_ret
                      exact ⟨rfl, hbw7.trans (hbr.mono hbw7.size)⟩
end Go.Proofs.Ytedalcocdgmigaa
