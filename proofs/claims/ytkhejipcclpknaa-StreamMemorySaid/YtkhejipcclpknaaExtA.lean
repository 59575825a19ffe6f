/- The space of blocks in memory, and what its reading methods answer. No statement is proved here. -/
import Derived.Test.YtkhejipcclpknaaProg
import Derived.Test.YtkhejipcclpknaaRow
import Derived.Test.YtkhejipcclpknaaExtM
set_option linter.unusedVariables false
set_option linter.unusedSimpArgs false
namespace Go.Proofs.Ytkhejipcclpknaa
open Go.RowKit

/-- The space at block p: n blocks, the holes hs in a slice whose row is block o (none: the nil slice). -/
structure Sp (w : World) (p : Nat) (o : Option Nat) (n : Int) (hs : List (Int × Int)) : Prop where
  ex : ∃ v : Value, v.ownBlock = o ∧ w.heap[p]? = some (.cells #[.int .i64 n, v] 81 (0, 0)) ∧ w.ownsRow 0 83 2 v hs.length (cells2 hs)
  ne : o ≠ some p
  n0 : 0 ≤ n
  n1 : n ≤ 4096
  ok : okFrom 0 n hs

theorem Sp.hn {w : World} {p : Nat} {o : Option Nat} {n : Int} {hs : List (Int × Int)} (h : Sp w p o n hs) : (hs.length : Int) ≤ 2049 := by
  have := h.ok.len (by have := h.n0; omega)
  have := h.n1
  omega

/-- The space's cells, as the walk reads them. -/
theorem Sp.open {w : World} {p : Nat} {o : Option Nat} {n : Int} {hs : List (Int × Int)} (h : Sp w p o n hs) :
    ∃ a cap, w.cell? ⟨p, 0, none⟩ = some (.int .i64 n) ∧ w.cell? ⟨p, 1, none⟩ = some (.slice a hs.length cap) ∧ w.frozen? ⟨p, 1, none⟩ = false ∧ p < w.heap.size ∧
      (∀ k, o = some k → k < w.heap.size) ∧ (Value.slice a hs.length cap).ownBlock = o ∧ w.ownsRow 0 83 2 (.slice a hs.length cap) hs.length (cells2 hs) ∧
      (∀ k (hk : k < hs.length), ∃ g, a = some ⟨g, 0, none⟩ ∧ o = some g ∧ w.cell? ⟨g, k * 2, none⟩ = some (.int .i64 (hs[k]).1) ∧ w.cell? ⟨g, k * 2 + 1, none⟩ = some (.int .i64 (hs[k]).2)) ∧ hs.length ≤ cap ∧ cap ≤ maxLen := by
  obtain ⟨v, hv, hp, own⟩ := h.ex
  have c0 := blk_cell hp 0
  have c1 := blk_cell hp 1
  have f1 := blk_free hp 1
  have hlt := blk_lt hp
  rcases own.2 with ⟨rfl, h0⟩ | ⟨g, cap, cur, rfl, _, hg, hle, hcm, hcs, htk⟩
  · refine ⟨none, 0, by simpa using c0, by rw [h0]; simpa using c1, f1, hlt, ?_, by simpa [Value.ownBlock] using hv, by rw [h0] at own ⊢; exact own, fun k hk => by omega, by omega, by unfold maxLen; omega⟩
    intro k hk
    rw [← hv] at hk
    simp [Value.ownBlock] at hk
  · refine ⟨some ⟨g, 0, none⟩, cap, by simpa using c0, by simpa using c1, f1, hlt, ?_, hv, own, ?_, hle, hcm⟩
    · intro k hk
      rw [← hv] at hk
      simp [Value.ownBlock] at hk
      subst hk
      exact blk_lt hg
    · intro k hk
      refine ⟨g, rfl, by rw [← hv]; rfl, ?_, ?_⟩
      · have := own.cells (g := g) rfl (k * 2) _ (cells2_get0 hs k hk)
        rwa [Addr.add_lit, Nat.zero_add] at this
      · have := own.cells (g := g) rfl (k * 2 + 1) _ (cells2_get1 hs k hk)
        rwa [Addr.add_lit, Nat.zero_add] at this

theorem Sp.lt {w : World} {p : Nat} {o : Option Nat} {n : Int} {hs : List (Int × Int)} (h : Sp w p o n hs) : p < w.heap.size ∧ ∀ k, o = some k → k < w.heap.size := by
  obtain ⟨a, cap, _, _, _, h1, h2, _⟩ := h.open
  exact ⟨h1, h2⟩

/-- The space stands where its blocks are as they were. -/
theorem Sp.kept {w w' : World} {p : Nat} {o : Option Nat} {n : Int} {hs : List (Int × Int)} (h : Sp w p o n hs) (hp : w'.heap[p]? = w.heap[p]?) (ho : ∀ k, o = some k → w'.heap[k]? = w.heap[k]?) : Sp w' p o n hs := by
  obtain ⟨v, hv, hb, own⟩ := h.ex
  refine ⟨⟨v, hv, hp.trans hb, own.1, ?_⟩, h.ne, h.n0, h.n1, h.ok⟩
  rcases own.2 with hn | ⟨g, cap, cur, rfl, h0, hg, rest⟩
  · exact .inl hn
  · exact .inr ⟨g, cap, cur, rfl, h0, (ho g (by rw [← hv]; rfl)).trans hg, rest⟩

theorem Sp.upd {S : Nat → Prop} {w w' : World} {p : Nat} {o : Option Nat} {n : Int} {hs : List (Int × Int)} (h : Sp w p o n hs) (u : Upd S w w') (hp : ¬ S p) (ho : ∀ k, o = some k → ¬ S k) : Sp w' p o n hs :=
  h.kept (u.block p h.lt.1 hp) fun k hk => u.block k (h.lt.2 k hk) (ho k hk)

theorem Sp.below {w w' : World} {p : Nat} {o : Option Nat} {n : Int} {hs : List (Int × Int)} (h : Sp w p o n hs) (u : Below w.heap.size w w') : Sp w' p o n hs :=
  h.kept (u.block p h.lt.1) fun k hk => u.block k (h.lt.2 k hk)

def insideB (n f c : Int) : Bool := decide (1 ≤ c) && decide (0 ≤ f) && decide (f < n) && decide (c ≤ n - f)

set_option maxHeartbeats 800000 in
set_option maxRecDepth 100000 in
theorem inside_any (p : Nat) (n f c : Int) (w : World) (hn : 0 ≤ n) (hn2 : n ≤ 4096) (hp : p < w.heap.size)
    (h0 : w.cell? ⟨p, 0, none⟩ = some (.int .i64 n)) :
    Calls Try.prog 55 #[.pointer (some ⟨p, 0, none⟩), .agg #[.int .i64 f, .int .i64 c]] w fun e w' => e = .returned (.bool (insideB n f c)) ∧ Below w.heap.size w w' := by
  go_enter Try.func55, Try.ntmps55
  go_wp2
  refine wp_region_quiet_lit (by kernel_rfl) (by kernel_rfl) ?_
  repeat (any_goals (first | go_big_quiet_step (fail) | quiet_step (fail) | (refine wpQuiet_step (fun K hK => ?_); go_simp; split <;> (refine hK _ ?_; clear hK K))))
  all_goals (refine wpQuiet_nil ?_; intro _ hw'; obtain ⟨nq, hw''⟩ := hw'; subst hw'')
  all_goals go_wp2
  all_goals go_ret
  all_goals refine ⟨?_, Below.drewN ((Below.refl _ _).alloc (Nat.le_refl _) _) _⟩
  · have h1 : 1 ≤ c := by assumption
    have h2 : 0 ≤ f := by assumption
    have h3 : f < n := by assumption
    simp [insideB, h1, h2, h3]
  · have h1 : n ≤ f := by assumption
    have h1' : ¬ f < n := by omega
    simp [insideB, h1']
  · have h1 : f < 0 := by assumption
    have h1' : ¬ 0 ≤ f := by omega
    simp [insideB, h1']
  · have h1 : c < 1 := by assumption
    have h1' : ¬ 1 ≤ c := by omega
    simp [insideB, h1']

set_option maxHeartbeats 400000 in
theorem left_any (p : Nat) (o : Option Nat) (n : Int) (hs : List (Int × Int)) (w : World) (h : Sp w p o n hs) :
    Calls Try.prog 25 #[.pointer (some ⟨p, 0, none⟩)] w fun e w' => e = .returned (.int .i64 (leftOf hs)) ∧ Below w.heap.size w w' := by
  obtain ⟨a, cap, c0, c1, f1, hp, ho, hob, own, hel, hcap, hcm⟩ := h.open
  have hn := h.hn
  have hn0 := h.n0
  have hn1 := h.n1
  go_enter Try.func25, Try.ntmps25
  go_wp2
  go_loopw [3, 11] (fun s i wr => ∃ k : Nat, k ≤ hs.length ∧ i = .int .i64 k ∧ s = .int .i64 (leftOf (hs.take k)) ∧ Below w.heap.size w wr) (fun _ i _ => hs.length - (intOf i).toNat)
  case atStart => exact ⟨0, Nat.zero_le _, rfl, rfl, Below.refl _ _⟩
  case round =>
    obtain ⟨k, hk, rfl, rfl, hbel⟩ := hrel
    by_cases hlt : k < hs.length
    · obtain ⟨g, rfl, hog, e0, e1⟩ := hel k hlt
      have e0' := (hbel.cell (p := ⟨g, k * 2, none⟩) (ho g hog)).trans e0
      have e1' := (hbel.cell (p := ⟨g, k * 2 + 1, none⟩) (ho g hog)).trans e1
      have hs1 : leftOf (hs.take (k + 1)) = leftOf (hs.take k) + (hs[k]).2 := by rw [take_snoc2 hs k hlt, leftOf_snoc]
      have hb1 := (h.ok.take (k + 1)).left (by omega)
      have hw1 : wrap64 (leftOf (hs.take k) + (hs[k]).2) = leftOf (hs.take (k + 1)) := by rw [← hs1]; unfold wrap64; omega
      have HW := hid hw1
      clear hs1 hw1 hb1 e0 e1
      go_wp2
      go_round
      case rel => exact ⟨k + 1, by omega, by go_num, by rw [HW.out], hbel.alloc hbel.size _⟩
      case measure => simp [intOf]; omega
    · go_wp2
      go_ret
      exact ⟨by simp [List.take_of_length_le (show hs.length ≤ k by omega)], hbel⟩

theorem infoE0 : (Try.prog.info? 83).map (fun i => (i.zero, i.size, i.bytes)) = some (some (.agg #[.int .i64 0, .int .i64 0]), 2, 16) := by kernel_rfl
theorem sizeE0 : (Try.prog.info? 83).map (·.size) = some 2 := by kernel_rfl

/-- A new slice of the holes. -/
def HolesPost (hs : List (Int × Int)) (w : World) (e : Ending) (w' : World) : Prop := ∃ g cap, e = .returned (.slice (some ⟨g, 0, none⟩) hs.length cap) ∧
      w'.ownsRow 0 83 2 (.slice (some ⟨g, 0, none⟩) hs.length cap) hs.length (cells2 hs) ∧ w.heap.size ≤ g ∧ Below w.heap.size w w'

set_option maxHeartbeats 400000 in
theorem holes_any (p : Nat) (o : Option Nat) (n : Int) (hs : List (Int × Int)) (w : World) (h : Sp w p o n hs) :
    Calls Try.prog 50 #[.pointer (some ⟨p, 0, none⟩)] w (HolesPost hs w) := by
  obtain ⟨a, cap, c0, c1, f1, hp, ho, hob, own, hel, hcap, hcm⟩ := h.open
  have hn := h.hn
  obtain ⟨ti, hi, hz0, hz1, hz2⟩ := info_parts infoE0
  have own0 : (w.alloc (.cells #[] 83)).ownsRow 0 83 2 (.slice (some ⟨w.heap.size, 0, none⟩) 0 0) 0 [] :=
    World.ownsRow_made w #[] 0 (Nat.zero_le _) (by unfold maxLen; omega) rfl
  by_cases h0 : hs = []
  · subst h0
    have happ := fun ty (W : World) => run_append_zero (P := Try.prog) W 79 ty 83 2 Try.underlying79 sizeE0 (some ⟨w.heap.size, 0, none⟩) a 0 0 cap (Nat.le_refl _)
    simp only [List.length_nil] at c1 ⊢
    clear hob own hel ho hcm
    go_enter Try.func50, Try.ntmps50
    go_wp2_with (at_builtin; refine wpList_append_run _ rfl (.tmp 3) (.tmp 7) 79 79 rfl _ _ rfl rfl (happ _ _) ?_)
    go_ret
    exact ⟨_, _, rfl, own0, Nat.le_refl _, (Below.refl _ _).alloc (Nat.le_refl _) _⟩
  · have hpos : 0 < hs.length := List.length_pos_iff.2 h0
    obtain ⟨g, rfl, hog, _⟩ := hel 0 hpos
    have hlt := ho g hog
    have hc : ∀ j u, (cells2 hs)[j]? = some u → (w.alloc (.cells #[] 83)).cell? ((⟨g, 0, none⟩ : Addr).add j) = some u := fun j u hj => by
      have := own.cells (g := g) rfl j u hj
      rw [Addr.add_lit] at this ⊢
      exact (World.cell?_of_block (w := w) (Below.heap_alloc w _ g hlt)).trans this
    obtain ⟨v', w', hrun, hown, hgr, hnew⟩ := run_append_own2 (P := Try.prog) (w.alloc (.cells #[] 83)) 0 79 79 83 ti _ 2 16 Try.underlying79 hi hz0 hz1 hz2 rfl _ 0 [] own0 ⟨g, 0, none⟩ hs.length cap (cells2 hs) (cells2_length hs) hc (cells2_oneCell hs) (by unfold maxLen; omega) (by omega) (Nat.zero_le _)
    rw [Nat.zero_add, List.nil_append] at hown
    have hbel : Below w.heap.size w w' := ((Below.refl _ _).alloc (Nat.le_refl _) _).grown hgr (by simp) (fun k hk => by simp [Value.ownBlock] at hk; omega)
    have hfin : ∀ e W', e = Ending.returned v' ∧ W' = w' → HolesPost hs w e W' := by
      rintro e W' ⟨rfl, rfl⟩
      rcases hown.2 with ⟨_, hz⟩ | ⟨g', cap', cur, rfl, _⟩
      · omega
      · refine ⟨g', cap', rfl, hown, ?_, hbel⟩
        rcases hnew with hh | hh <;> simp [Value.ownBlock] at hh <;> omega
    refine Calls.mono ?_ hfin
    clear hfin hbel hnew hgr hown hc own hob hog hel ho hn hcm own0
    go_enter Try.func50, Try.ntmps50
    go_wp2_with (at_builtin; refine wpList_append_run _ rfl (.tmp 3) (.tmp 7) 79 79 rfl _ _ rfl rfl hrun ?_)
    go_ret
    exact ⟨rfl, rfl⟩

/-- What New answers. -/
def newHoles (n : Int) : List (Int × Int) := if 0 < n then [(0, n)] else []
theorem newHoles_ok (n : Int) (h0 : 0 ≤ n) : okFrom 0 n (newHoles n) := by
  unfold newHoles
  split
  · exact ⟨by simp, by simp; omega, by simp, trivial⟩
  · trivial

set_option maxHeartbeats 400000 in
theorem new_bad (n : Int) (w : World) (h : n < 0 ∨ 4096 < n) :
    Calls Try.prog 12 #[.int .i64 n] w fun e w' => e = .returned (.tuple #[.pointer none, .int .i64 40]) ∧ w = w' := by
  rcases h with h | h
  · go_enter Try.func12, Try.ntmps12
    go_wp2
    go_ret2
    exact ⟨rfl, rfl⟩
  · have h' : ¬ n < 0 := by omega
    go_enter Try.func12, Try.ntmps12
    go_wp2
    go_ret2
    exact ⟨rfl, rfl⟩

def NewPost (n : Int) (w : World) (e : Ending) (w' : World) : Prop := ∃ p o, e = .returned (.tuple #[.pointer (some ⟨p, 0, none⟩), .int .i64 0]) ∧ Sp w' p o n (newHoles n) ∧
      w.heap.size ≤ p ∧ (∀ k, o = some k → w.heap.size ≤ k) ∧ Below w.heap.size w w'

set_option maxHeartbeats 400000 in
theorem new_good (n : Int) (w : World) (h0 : 0 ≤ n) (h1 : n ≤ 4096) :
    Calls Try.prog 12 #[.int .i64 n] w (NewPost n w) := by
  have h0' : ¬ n < 0 := by omega
  by_cases hp : 0 < n
  · go_enter Try.func12, Try.ntmps12
    go_wp2
    go_ret2
    refine ⟨_, some (w.heap.size + 1), rfl, ⟨⟨_, rfl, heap_alloc2_old w _ _, ?_⟩, by simp, h0, h1, newHoles_ok n h0⟩, Nat.le_refl _, fun k hk => by simp at hk; omega, ((Below.refl _ _).alloc (Nat.le_refl _) _).alloc (by simp) _⟩
    simp only [newHoles, if_pos hp]
    exact ⟨rfl, .inr ⟨_, _, _, rfl, Nat.zero_le _, heap_alloc2_new w _ _, Nat.le_refl _, by unfold maxLen; simp, rfl, rfl⟩⟩
  · go_enter Try.func12, Try.ntmps12
    go_wp2
    go_ret2
    refine ⟨_, none, rfl, ⟨⟨_, rfl, heap_alloc_new w _, ?_⟩, by simp, h0, h1, newHoles_ok n h0⟩, Nat.le_refl _, by simp, (Below.refl _ _).alloc (Nat.le_refl _) _⟩
    have hn : newHoles n = [] := if_neg (by omega)
    rw [hn]
    exact World.ownsRow_nil _ _ _ _
end Go.Proofs.Ytkhejipcclpknaa
