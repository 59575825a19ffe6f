/- A slice of violations that the code owns; slices.Clone of puts. No statement is proved here. -/
import Derived.Test.YtgimpkbknaopcaaVL
set_option linter.unusedVariables false
set_option linter.unusedSimpArgs false
namespace Go.Proofs.Ytgimpkbknaopcaa
open Go.RowKit Go.Shelf Go.Lib
open Go.Sort hiding Below

theorem V.cs_length (v : V) : v.cs.length = 12 := rfl
theorem V.cs_one (v : V) : ∀ x ∈ v.cs, x.oneCell' = true := by
  intro x hx
  simp only [V.cs, List.mem_cons, List.not_mem_nil, or_false] at hx
  rcases hx with rfl | rfl | rfl | rfl | rfl | rfl | rfl | rfl | rfl | rfl | rfl | rfl <;> rfl
def cellsV : List V → List Value
  | [] => []
  | p :: r => p.cs ++ cellsV r
theorem cellsV_length : ∀ l : List V, (cellsV l).length = l.length * 12
  | [] => rfl
  | p :: r => by simp [cellsV, cellsV_length r, V.cs_length]; omega
theorem cellsV_append : ∀ a b : List V, cellsV (a ++ b) = cellsV a ++ cellsV b
  | [], b => rfl
  | p :: r, b => by simp [cellsV, cellsV_append r b]
theorem cellsV_one : ∀ l : List V, ∀ v ∈ cellsV l, v.oneCell' = true
  | [], v, h => by simp [cellsV] at h
  | p :: r, v, h => by
    simp only [cellsV, List.mem_append] at h
    rcases h with h | h
    · exact p.cs_one v h
    · exact cellsV_one r v h
theorem cellsV_get : ∀ (l : List V) (i j : Nat) (hi : i < l.length), j < 12 → (cellsV l)[i * 12 + j]? = (l[i]).cs[j]?
  | p :: r, 0, j, _, hj => by
    simp only [cellsV, Nat.zero_mul, Nat.zero_add, List.getElem_cons_zero]
    rw [List.getElem?_append_left (by rw [V.cs_length]; exact hj)]
  | p :: r, i + 1, j, hi, hj => by
    simp only [cellsV, List.getElem_cons_succ]
    rw [List.getElem?_append_right (by rw [V.cs_length]; omega), V.cs_length, show (i + 1) * 12 + j - 12 = i * 12 + j by omega]
    exact cellsV_get r i j (by simpa using hi) hj
theorem infoV : (Try.prog.info? 30).map (fun i => (i.zero, i.size, i.bytes)) = some (some (.agg #[.int .i64 0, .int .i64 0, .int .i64 0, .int .i64 0, .int .i64 0, .string .empty, .bool false, .string .empty, .bool false, .string .empty, .int .i64 0, .int .i64 0]), 12, 120) := by kernel_rfl
abbrev OwnV (w : World) (v : Value) (l : List V) : Prop := w.ownsRow 0 30 12 v l.length (cellsV l)
theorem ownV_lt {w : World} {v : Value} {l : List V} (h : OwnV w v l) : ∀ k, v.ownBlock = some k → k < w.heap.size := by
  intro k hk
  rcases h.2 with ⟨rfl, _⟩ | ⟨g0, cap0, cur, rfl, k0, hg, rest⟩
  · simp [Value.ownBlock] at hk
  · simp [Value.ownBlock] at hk
    subst hk
    exact blk_lt hg
theorem ownV_kept {w w' : World} {v : Value} {l : List V} (h : OwnV w v l) (hb : ∀ k, v.ownBlock = some k → w'.heap[k]? = w.heap[k]?) : OwnV w' v l := by
  refine ⟨h.1, ?_⟩
  rcases h.2 with hh | ⟨g0, cap0, cur, rfl, k0, hg, rest⟩
  · exact .inl hh
  · exact .inr ⟨g0, cap0, cur, rfl, k0, (hb g0 rfl).trans hg, rest⟩
theorem ownV_below {w w' : World} {v : Value} {l : List V} (h : OwnV w v l) (hb : Below w.heap.size w w') : OwnV w' v l := ownV_kept h fun k hk => hb.block k (ownV_lt h k hk)
/-- append of one violation. -/
theorem app_viol (w : World) (ty : TypeId) (v : Value) (l : List V) (x : V) (h : OwnV w v l) (r : Nat) (hr : w.heap[r]? = some (.cells x.cs.toArray 30 (0, 0))) (hb : l.length ≤ 1172812402960) :
    ∃ v' w', (Builtin.append_ #[28, 28] ty #[v, .slice (some ⟨r, 0, none⟩) 1 1]).run Try.prog w = .ok v' w' ∧ OwnV w' v' (l ++ [x]) ∧ w.grownBy w' v.ownBlock ∧
      (v'.ownBlock = v.ownBlock ∨ (v'.ownBlock = some w.heap.size ∧ w.grownBy w' none)) := by
  obtain ⟨ti, hi, hz0, hz1, hz2⟩ := info_parts infoV
  unfold OwnV
  rw [cellsV_append, List.length_append]
  refine run_append_own3 w 0 28 ty 30 ti _ 12 120 Try.underlying28 hi hz0 hz1 hz2 rfl v _ _ h ⟨r, 0, none⟩ 1 1 (cellsV [x]) (cellsV_length [x]) ?_ (cellsV_one _) (by unfold maxLen; omega) (by omega) (Nat.zero_le _)
  intro j u hj
  rw [Addr.add_lit, Nat.zero_add, blk_cell hr]
  simpa [cellsV] using hj

/-! ### Clone -/
theorem eq_some (a : Addr) (n c : Nat) (w : World) : Sem.run Try.prog (binOp BinOp.eql 51 (.slice (some a) n c) (.slice none 0 0)) w = .ok (.bool false) w := by kernel_rfl
theorem eq_none (w : World) : Sem.run Try.prog (binOp BinOp.eql 51 (.slice none 0 0) (.slice none 0 0)) w = .ok (.bool true) w := by kernel_rfl
def ClonePost (w : World) (l : List Pt) (e : Ending) (w' : World) : Prop := ∃ g cap, e = .returned (.slice (some ⟨g, 0, none⟩) l.length cap) ∧ Own w' (.slice (some ⟨g, 0, none⟩) l.length cap) l ∧ w.heap.size ≤ g ∧ Below w.heap.size w w'
set_option maxHeartbeats 2000000 in
set_option maxRecDepth 1000000 in
theorem clone_some (g cap : Nat) (l : List Pt) (w : World) (h : Own w (.slice (some ⟨g, 0, none⟩) l.length cap) l) (hl : l.length ≤ 20000) :
    Calls Try.prog 27 #[.slice (some ⟨g, 0, none⟩) l.length cap] w (ClonePost w l) := by
  have hal := (Below.refl _ w).alloc (Nat.le_refl _) (.cells #[] 55)
  have h0 : Own (w.alloc (.cells #[] 55)) (.slice (some ⟨w.heap.size, 0, none⟩) 0 0) [] := ⟨rfl, .inr ⟨w.heap.size, 0, #[], rfl, Nat.zero_le _, heap_alloc_new w _, Nat.le_refl _, by unfold maxLen; omega, rfl, rfl⟩⟩
  obtain ⟨v', w2, hrun, hown, hgr, hdis⟩ := app_puts (w.alloc (.cells #[] 55)) 51 (.slice (some ⟨w.heap.size, 0, none⟩) 0 0) [] l h0 ⟨g, 0, none⟩ cap ((own_below h hal).cells (g := g) rfl) (by simpa using Nat.le_trans hl (by omega))
  simp only [List.nil_append] at hown
  obtain ⟨n, hn⟩ : ∃ n, n = l.length := ⟨_, rfl⟩
  have hob : ∃ g' cap', v' = .slice (some ⟨g', 0, none⟩) n cap' ∧ w.heap.size ≤ g' := by
    rcases hown.2 with ⟨hv, hz⟩ | ⟨g', cap', cur, hv, _⟩
    · exfalso
      rcases hdis with h1 | ⟨h1, _⟩
      · rw [hv] at h1; simp [Value.ownBlock] at h1
      · rw [hv] at h1; simp [Value.ownBlock] at h1
    · refine ⟨g', cap', by rw [hv, hn], ?_⟩
      rcases hdis with h1 | ⟨h1, _⟩
      · rw [hv] at h1
        simp only [Value.ownBlock, Option.map_some, Option.some.injEq] at h1
        omega
      · rw [hv] at h1
        simp only [Value.ownBlock, Option.map_some, Option.some.injEq] at h1
        have := hal.size
        omega
  obtain ⟨g', cap', rfl, hg'⟩ := hob
  have hbel : Below w.heap.size w w2 := hal.trans ((Upd.of_grown hgr).below hal.size (fun k hk => by simp [Value.ownBlock] at hk; omega))
  have hE := eq_some ⟨g, 0, none⟩ n cap w
  rw [← hn] at hrun ⊢
  have HN := hid hn
  have HO := hid hown
  have HB := hid hbel
  clear hn hown hgr hdis h0 hal h hl hbel
  go_enter Try.func27, Try.ntmps27
  go_wp2_with (at_builtin; refine wpList_append_run _ rfl (.tmp 5) (.tmp 6) 51 51 rfl _ _ rfl rfl hrun ?_)
  go_ret
  exact ⟨g', cap', by rw [← HN.out]; rfl, by rw [← HN.out]; exact HO.out, hg', HB.out⟩
theorem clone_none (w : World) : Calls Try.prog 27 #[.slice none 0 0] w fun e w' => e = .returned (.slice none 0 0) ∧ w' = w := by
  have hE := eq_none w
  go_enter Try.func27, Try.ntmps27
  go_wp2_with fail
  go_ret
  exact ⟨rfl, rfl⟩
/-- SortFunc at nil. -/
theorem sort_none (w : World) : Calls Try.prog 28 #[.slice none 0 0, .func (.func 29) #[] #[]] w fun e w' => e = .returned (.tuple #[]) ∧ w' = w := by
  have hi : ∀ W, Calls Try.prog 39 #[.slice none 0 0, .int .i64 0, .int .i64 0, .func (.func 29) #[] #[]] W fun e w' => e = .returned (.tuple #[]) ∧ w' = W := by
    intro W
    go_enter Try.func39, Try.ntmps39
    go_wp2
    refine wp_loop_rounds 1 ?_
    rw [rounds_succ]
    go_wp2
    exact bodyPost_end (v := .tuple #[]) (by simp [results, Try.results39, go_sem]) rfl ⟨rfl, rfl⟩
  have hp : ∀ (lim : Int) W, Calls Try.prog 35 #[.slice none 0 0, .int .i64 0, .int .i64 0, .int .i64 lim, .func (.func 29) #[] #[]] W fun e w' => e = .returned (.tuple #[]) ∧ w' = W := by
    intro lim W
    go_enter Try.func35, Try.ntmps35
    go_wp2_with fail
    refine wp_loop_rounds 1 ?_
    rw [rounds_succ]
    go_wp2_with (go_at_call 39; refine (hi _).mono ?_; rintro e w' ⟨rfl, rfl⟩)
    exact bodyPost_ret (v := .tuple #[]) (by simp [results, Try.results35, go_sem]) rfl ⟨rfl, rfl⟩
  have hl : Calls Try.prog 36 #[.int .u64 0] w fun e w' => e = .returned (.int .i64 (Lib.bitLen 0 : Nat)) ∧ w' = w := Any.bits_Len (SlLaysF0.n15.bits (P := Try.prog) (ρ := bitsLen_ren) bitsLen) (0 : Int) w (by omega) (by omega)
  generalize Lib.bitLen 0 = bl at hl
  go_enter Try.func28, Try.ntmps28
  go_wp2_with (first | (go_at_call 36; refine hl.mono ?_; rintro e w' ⟨rfl, rfl⟩) | (go_at_call 35; refine (hp _ _).mono ?_; rintro e w' ⟨rfl, rfl⟩))
  exact bodyPost_end (v := .tuple #[]) (by simp [results, Try.results28, go_sem]) rfl ⟨rfl, rfl⟩
end Go.Proofs.Ytgimpkbknaopcaa
