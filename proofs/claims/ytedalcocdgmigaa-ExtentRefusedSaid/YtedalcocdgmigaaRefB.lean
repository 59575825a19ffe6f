/- The document's space: its holes. No statement is proved here. -/
import Derived.Test.YtedalcocdgmigaaRefA
set_option linter.unusedVariables false
set_option linter.unusedSimpArgs false
namespace Go.Proofs.Ytedalcocdgmigaa
open Go.RowKit

/-- The scan for holes, at block k, j free blocks behind it. -/
structure Scan (hs : List (Int × Int)) (N k j : Nat) (out : List (Int × Int)) : Prop where
  ok : okFrom 0 N out
  nx : nxt 0 out ≤ (k : Int) - j
  jk : j ≤ k
  kN : k ≤ N + 1
  jN : k = N + 1 → j = 0
  lo : ∀ x, x < (k : Int) - j → freeB out x = freeB hs x
  run : ∀ x, (k : Int) - j ≤ x → x < k → freeB hs x = true ∨ (j = 0)
theorem Scan.zero (hs : List (Int × Int)) (N : Nat) (h : okFrom 0 N hs) : Scan hs N 0 0 [] :=
  ⟨trivial, by simp [nxt], by omega, by omega, fun h => rfl, fun x hx => by rw [h.low x (by omega)]; rfl, fun x h1 h2 => .inr rfl⟩
theorem Scan.free {hs out : List (Int × Int)} {N k j : Nat} (s : Scan hs N k j out) (hk : k < N) (hf : freeB hs k = true) : Scan hs N (k + 1) (j + 1) out := by
  refine ⟨s.ok, by have := s.nx; omega, by have := s.jk; omega, by omega, fun h => by omega, fun x hx => s.lo x (by omega), fun x h1 h2 => ?_⟩
  by_cases hx : x = k
  · rw [hx]; exact .inl hf
  · rcases s.run x (by omega) (by omega) with h | h
    · exact .inl h
    · omega
theorem Scan.skip {hs out : List (Int × Int)} {N k : Nat} (s : Scan hs N k 0 out) (hk : k ≤ N) (hf : freeB hs k = false) : Scan hs N (k + 1) 0 out := by
  have hn := s.nx
  refine ⟨s.ok, by omega, by omega, by omega, fun h => rfl, fun x hx => ?_, fun x h1 h2 => .inr rfl⟩
  by_cases hx : x = k
  · rw [hx, hf]
    cases hh : freeB out k with
    | false => rfl
    | true =>
      obtain ⟨y, hy, h1, h2⟩ := (freeB_iff _ _).1 hh
      have := nxt_above s.ok y hy
      omega
  · exact s.lo x (by omega)
theorem Scan.put {hs out : List (Int × Int)} {N k j : Nat} (s : Scan hs N k j out) (hj : 0 < j) (hk : k ≤ N) (hf : freeB hs k = false) : Scan hs N (k + 1) 0 (out ++ [((k : Int) - j, (j : Int))]) := by
  have hn := s.nx
  have hjk := s.jk
  refine ⟨okFrom_append.2 ⟨s.ok, by show _ ≤ _; exact hn, by show _ ≤ _; omega, by show _ ≤ _; simp only; omega, trivial⟩, by rw [nxt_snoc]; simp only; omega, by omega, by omega, fun h => rfl, fun x hx => ?_, fun x h1 h2 => .inr rfl⟩
  rw [freeB_append, freeB_cons, freeB_nil, Bool.or_false]
  by_cases h1 : x < (k : Int) - j
  · rw [s.lo x h1]
    have : (decide ((k : Int) - j ≤ x) && decide (x < (k : Int) - j + j)) = false := by simp; omega
    simp only [this, Bool.or_false]
  · by_cases h2 : x < k
    · have : (decide ((k : Int) - j ≤ x) && decide (x < (k : Int) - j + j)) = true := by simp; omega
      simp only [this, Bool.or_true]
      rcases s.run x (by omega) h2 with h | h
      · exact h.symm
      · omega
    · have hx : x = k := by omega
      have : (decide ((k : Int) - j ≤ x) && decide (x < (k : Int) - j + j)) = false := by simp; omega
      simp only [this, Bool.or_false]
      rw [hx, hf]
      cases hh : freeB out k with
      | false => rfl
      | true =>
        obtain ⟨y, hy, h1, h2⟩ := (freeB_iff _ _).1 hh
        have := nxt_above s.ok y hy
        omega
theorem Scan.done {hs out : List (Int × Int)} {N : Nat} (s : Scan hs N (N + 1) 0 out) (hok : okFrom 0 N hs) : out = hs := by
  refine okFrom_unique s.ok hok fun x => ?_
  by_cases hx : x < ((N + 1 : Nat) : Int)
  · exact s.lo x (by omega)
  · rw [s.ok.high x (by omega), hok.high x (by omega)]

theorem info2 : (Try.prog.info? 66).map (fun i => (i.zero, i.size, i.bytes)) = some (some (.agg #[.int .i64 0, .int .i64 0]), 2, 16) := by kernel_rfl
theorem run_append_R (w : World) (B : Nat) (hB : B ≤ w.heap.size) (ty : TypeId) (v : Value) (xs ys : List (Int × Int)) (hown : w.ownsRow B 66 2 v xs.length (cells2 xs)) (r ro rc : Nat) (hys : ∀ j u, (cells2 ys)[j]? = some u → w.cell? ((⟨r, ro, none⟩ : Addr).add j) = some u) (h63 : xs.length + ys.length ≤ 1000000) :
    ∃ v' w', (Builtin.append_ #[64, 64] ty #[v, .slice (some ⟨r, ro, none⟩) ys.length rc]).run Try.prog w = .ok v' w' ∧ w'.ownsRow B 66 2 v' (xs ++ ys).length (cells2 (xs ++ ys)) ∧ w.grownBy w' v.ownBlock ∧
      (v'.ownBlock = v.ownBlock ∨ (v'.ownBlock = some w.heap.size ∧ w.grownBy w' none)) := by
  obtain ⟨ti, hi, hz0, hz1, hz2⟩ := info_parts info2
  rw [cells2_append, List.length_append]
  exact run_append_own3 w B 64 ty 66 ti _ 2 16 Try.underlying64 hi hz0 hz1 hz2 rfl v _ _ hown ⟨r, ro, none⟩ ys.length rc (cells2 ys) (cells2_length ys) hys (cells2_oneCell _) (by unfold maxLen; omega) (by omega) hB

/-- A new slice of the holes, as pairs. -/
def RHolesPost (hs : List (Int × Int)) (w : World) (e : Ending) (w' : World) : Prop := ∃ v, e = .returned v ∧ w'.ownsRow w.heap.size 66 2 v hs.length (cells2 hs) ∧ Below w.heap.size w w'
theorem own2_slice {w : World} {B : Nat} {v : Value} {hs : List (Int × Int)} (h : w.ownsRow B 66 2 v hs.length (cells2 hs)) :
    ∃ a cap, v = .slice a hs.length cap ∧ ∀ i (hi : i < hs.length), ∃ g, a = some ⟨g, 0, none⟩ ∧ B ≤ g ∧ g < w.heap.size ∧ w.cell? ⟨g, i * 2, none⟩ = some (.int .i64 (hs[i]).1) ∧ w.cell? ⟨g, i * 2 + 1, none⟩ = some (.int .i64 (hs[i]).2) := by
  rcases h.2 with ⟨rfl, h0⟩ | ⟨g, cap, cur, rfl, hBg, hg, rest⟩
  · exact ⟨none, 0, by rw [h0], fun i hi => by omega⟩
  · refine ⟨_, cap, rfl, fun i hi => ⟨g, rfl, hBg, blk_lt hg, ?_, ?_⟩⟩
    · have := h.cells (g := g) rfl (i * 2) _ (cells2_get0 hs i hi)
      rwa [Addr.add_lit, Nat.zero_add] at this
    · have := h.cells (g := g) rfl (i * 2 + 1) _ (cells2_get1 hs i hi)
      rwa [Addr.add_lit, Nat.zero_add] at this
set_option maxHeartbeats 1000000 in
set_option maxRecDepth 100000 in
theorem rholes_any (r u : Nat) (n : Int) (us : List Bool) (hs : List (Int × Int)) (w : World) (h : Rf w r u n us) (hok : okFrom 0 n hs) (hfr : ∀ x, 0 ≤ x → x < n → freeB hs x = !usedAt us x) :
    Calls Try.prog 34 #[.pointer (some ⟨r, 0, none⟩)] w (RHolesPost hs w) := by
  obtain ⟨hrl, hul, c0, cu, fu⟩ := h.open
  have hl := h.len
  have hn1 := h.n1
  have hlN : (us.length : Int) ≤ 4096 := by omega
  have Hfr := hid hfr
  have Hcu := hid cu
  have Hok := hid (show okFrom 0 (us.length : Nat) hs by rw [hl]; exact hok)
  have Hhi := hid (show freeB hs (us.length : Nat) = false from hok.high _ (by omega))
  obtain ⟨L, hL⟩ : ∃ L, L = us.length := ⟨_, rfl⟩
  clear hfr cu h hok
  go_enter Try.func34, Try.ntmps34
  go_wp2
  go_loopw [3, 4, 5] (fun s3 s4 s5 wr => ∃ (k j : Nat) (out : List (Int × Int)), k ≤ us.length + 1 ∧ s5 = .int .i64 k ∧ s4 = .int .i64 j ∧ Hid (Scan hs us.length k j out) ∧ Hid (wr.ownsRow w.heap.size 66 2 s3 out.length (cells2 out)) ∧ Below w.heap.size w wr) (fun _ _ i _ => us.length + 1 - (intOf i).toNat)
  case atStart => exact ⟨0, 0, [], by omega, rfl, rfl, hid (Scan.zero hs _ Hok.out), hid (World.ownsRow_nil w _ _ _), Below.refl _ _⟩
  case round =>
    obtain ⟨k, j, out, hk, rfl, rfl, Hs, Ho, hbel⟩ := hrel
    have c0' := (hbel.cell (p := ⟨r, 0, none⟩) hrl).trans c0
    have hjk := Hs.out.jk
    by_cases hlast : k = us.length + 1
    · have hj := Hs.out.jN hlast
      subst hj
      have hdone : out = hs := by
        have := Hs.out
        rw [hlast] at this
        exact this.done Hok.out
      subst hdone
      have hnk : ¬ (k : Int) ≤ us.length := by omega
      go_wp2
      go_ret
      exact ⟨_, rfl, Ho.out, hbel⟩
    · by_cases hfree : k < us.length ∧ freeB hs k = true
      · obtain ⟨hlt, hf⟩ := hfree
        have hu := Hfr.out k (by omega) (by omega)
        rw [usedAt_get hlt, hf] at hu
        have cu' := (hbel.cell (p := ⟨u, k, none⟩) hul).trans (Hcu.out k hlt)
        have hu' : us[k] = false := by cases h : us[k] <;> simp [h] at hu ⊢
        rw [hu'] at cu'
        have Hs' := hid (Hs.out.free hlt hf)
        clear hu hu' hf
        go_wp2
        exact ⟨⟨k + 1, j + 1, out, by omega, by go_num, by go_num, Hs', Ho, hbel⟩, by simp [intOf]; omega⟩
      · have hf : freeB hs k = false := by
          by_cases hlt : k < us.length
          · cases h : freeB hs k with
            | false => rfl
            | true => exact absurd ⟨hlt, h⟩ hfree
          · have : k = us.length := by omega
            rw [this]; exact Hhi.out
        have hkN : k ≤ us.length := by omega
        have hkN' : (k : Int) ≤ us.length := by omega
        obtain ⟨bb, hbb⟩ : ∃ bb : Bool, bb = decide (k < us.length) := ⟨_, rfl⟩
        by_cases hj0 : j = 0
        · subst hj0
          have Hs' := hid (Hs.out.skip hkN hf)
          by_cases hlt : k < us.length
          · have hu := Hfr.out k (by omega) (by omega)
            rw [usedAt_get hlt, hf] at hu
            have cu' := (hbel.cell (p := ⟨u, k, none⟩) hul).trans (Hcu.out k hlt)
            have hu' : us[k] = true := by cases h : us[k] <;> simp [h] at hu ⊢
            rw [hu'] at cu'
            clear hu hu' hf hfree
            go_wp2
            exact ⟨⟨k + 1, 0, out, by omega, by go_num, rfl, Hs', Ho, hbel⟩, by simp [intOf]; omega⟩
          · have hlt' : ¬ (k : Int) < us.length := by omega
            clear hf hfree
            go_wp2
            exact ⟨⟨k + 1, 0, out, by omega, by go_num, rfl, Hs', Ho, hbel⟩, by simp [intOf]; omega⟩
        · have Hs' := hid (Hs.out.put (by omega) hkN hf)
          have hoL : out.length ≤ 5000 := by
            have := Hs.out.ok.len (by omega)
            omega
          have hj1 : (0 : Int) < j := by omega
          have hjk' : (j : Int) ≤ k := by omega
          have ownA := Ho.out.alloc (.cells #[.int .i64 ((k : Int) - j), .int .i64 j] 66)
          obtain ⟨v', w5, hrun, hown, hgr, hdis⟩ := run_append_R (wr.alloc (.cells #[.int .i64 ((k : Int) - j), .int .i64 j] 66)) w.heap.size (Nat.le_trans hbel.size (by simp)) 64 u3 out [((k : Int) - j, (j : Int))] ownA wr.heap.size 0 1 (pair_cells (heap_alloc_new wr _)) (by simp; omega)
          have hb5 : Below w.heap.size w w5 := (hbel.alloc hbel.size _).grown hgr (by simp; have := hbel.size; omega) (fun g hg => by
            rcases Ho.out.2 with ⟨hv, _⟩ | ⟨g0, cap0, cur, hv, hB, _⟩
            · rw [hv] at hg; simp [Value.ownBlock] at hg
            · rw [hv] at hg; simp [Value.ownBlock] at hg; omega)
          have Ho' := hid hown
          have hrun' := hrun
          clear hown hgr hdis ownA hrun
          simp only [List.length_cons, List.length_nil, Nat.zero_add] at hrun'
          by_cases hlt : k < us.length
          · have hu := Hfr.out k (by omega) (by omega)
            rw [usedAt_get hlt, hf] at hu
            have cu' := (hbel.cell (p := ⟨u, k, none⟩) hul).trans (Hcu.out k hlt)
            have hu' : us[k] = true := by cases h : us[k] <;> simp [h] at hu ⊢
            rw [hu'] at cu'
            clear hu hu' hf hfree
            go_wp2_with (at_builtin; refine wpList_append_run _ rfl (.tmp 36) (.tmp 42) 64 64 rfl _ _ rfl rfl hrun' ?_)
            exact ⟨⟨k + 1, 0, _, by omega, by go_num, rfl, Hs', Ho', hb5⟩, by simp [intOf]; omega⟩
          · have hlt' : ¬ (k : Int) < us.length := by omega
            clear hf hfree
            go_wp2_with (at_builtin; refine wpList_append_run _ rfl (.tmp 36) (.tmp 42) 64 64 rfl _ _ rfl rfl hrun' ?_)
            exact ⟨⟨k + 1, 0, _, by omega, by go_num, rfl, Hs', Ho', hb5⟩, by simp [intOf]; omega⟩
end Go.Proofs.Ytedalcocdgmigaa
