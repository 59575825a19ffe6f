/- The library's sort at [][]int, laid. No statement is proved here. -/
import Derived.Test.YtbbfbkoanbdghaaCB
import Derived.Shelf.SlSortCmp.Whole1
import Derived.Test.YtbbfbkoanbdghaaGE
set_option linter.unusedVariables false
set_option linter.unusedSimpArgs false
namespace Go.Proofs.Ytbbfbkoanbdghaa
open Go.RowKit Go.Shelf Go.Lib
open Go.Sort hiding Below
def pdqG_ren : Go.Shelf.Ren := ⟨fun | 6 => 36 | 14 => 49 | 15 => 50 | 20 => 55 | 21 => 56 | 22 => 57 | 23 => 58 | 24 => 59 | 25 => 60 | 26 => 61 | 27 => 62 | 28 => 63 | 29 => 64 | 46 => 82 | 47 => 83 | 48 => 84 | 49 => 85 | 50 => 86 | 57 => 93 | n => n, fun | 24 => 38 | 0 => 0 | 3 => 3 | 4 => 4 | 5 => 5 | 9 => 9 | 22 => 47 | 25 => 81 | 39 => 73 | 45 => 96 | 46 => 97 | 50 => 101 | 53 => 104 | 55 => 106 | 66 => 117 | 70 => 121 | 76 => 127 | 77 => 128 | n => n, fun | n => n⟩
theorem pdqG : SlLaysF.n6 Try.prog pdqG_ren := {
  mixed := by kernel_rfl
  f6 := ⟨Try.f36.name, by decide, Try.func36.trans (congrArg some (by kernel_rfl))⟩
  f14 := ⟨Try.f49.name, by decide, Try.func49.trans (congrArg some (by kernel_rfl))⟩
  f15 := Try.func50.trans (congrArg some (by kernel_rfl))
  f20 := ⟨Try.f55.name, by decide, Try.func55.trans (congrArg some (by kernel_rfl))⟩
  f21 := ⟨Try.f56.name, by decide, Try.func56.trans (congrArg some (by kernel_rfl))⟩
  f22 := ⟨Try.f57.name, by decide, Try.func57.trans (congrArg some (by kernel_rfl))⟩
  f23 := ⟨Try.f58.name, by decide, Try.func58.trans (congrArg some (by kernel_rfl))⟩
  f24 := ⟨Try.f59.name, by decide, Try.func59.trans (congrArg some (by kernel_rfl))⟩
  f25 := ⟨Try.f60.name, by decide, Try.func60.trans (congrArg some (by kernel_rfl))⟩
  f26 := ⟨Try.f61.name, by decide, Try.func61.trans (congrArg some (by kernel_rfl))⟩
  f27 := ⟨Try.f62.name, by decide, Try.func62.trans (congrArg some (by kernel_rfl))⟩
  f28 := Try.func63.trans (congrArg some (by kernel_rfl))
  f29 := Try.func64.trans (congrArg some (by kernel_rfl))
  f46 := ⟨Try.f82.name, by decide, Try.func82.trans (congrArg some (by kernel_rfl))⟩
  f47 := Try.func83.trans (congrArg some (by kernel_rfl))
  f48 := Try.func84.trans (congrArg some (by kernel_rfl))
  f49 := ⟨Try.f85.name, by decide, Try.func85.trans (congrArg some (by kernel_rfl))⟩
  f50 := ⟨Try.f86.name, by decide, Try.func86.trans (congrArg some (by kernel_rfl))⟩
  f57 := ⟨Try.f93.name, by decide, Try.func93.trans (congrArg some (by kernel_rfl))⟩
  t0 := Try.underlying0
  a0 := Try.isAgg0
  z0 := Try.sizeOf0
  v0 := Try.zeroValue0
  t3 := Try.underlying3
  a3 := Try.isAgg3
  z3 := Try.sizeOf3
  v3 := Try.zeroValue3
  t4 := Try.underlying4
  a4 := Try.isAgg4
  z4 := Try.sizeOf4
  v4 := Try.zeroValue4
  t5 := Try.underlying5
  a5 := Try.isAgg5
  z5 := Try.sizeOf5
  v5 := Try.zeroValue5
  t9 := Try.underlying9
  a9 := Try.isAgg9
  z9 := Try.sizeOf9
  v9 := Try.zeroValue9
  t22 := Try.underlying47
  a22 := Try.isAgg47
  z22 := Try.sizeOf47
  v22 := Try.zeroValue47
  a24 := Try.isAgg38
  z24 := Try.sizeOf38
  t25 := Try.underlying81
  a25 := Try.isAgg81
  z25 := Try.sizeOf81
  v25 := Try.zeroValue81
  t39 := Try.underlying73
  a39 := Try.isAgg73
  z39 := Try.sizeOf73
  v39 := Try.zeroValue73
  t45 := Try.underlying96
  a45 := Try.isAgg96
  z45 := Try.sizeOf96
  v45 := Try.zeroValue96
  t46 := Try.underlying97
  a46 := Try.isAgg97
  z46 := Try.sizeOf97
  v46 := Try.zeroValue97
  t50 := Try.underlying101
  a50 := Try.isAgg101
  z50 := Try.sizeOf101
  v50 := Try.zeroValue101
  t53 := Try.underlying104
  a53 := Try.isAgg104
  z53 := Try.sizeOf104
  v53 := Try.zeroValue104
  t55 := Try.underlying106
  a55 := Try.isAgg106
  z55 := Try.sizeOf106
  v55 := Try.zeroValue106
  t66 := Try.underlying117
  a66 := Try.isAgg117
  z66 := Try.sizeOf117
  v66 := Try.zeroValue117
  t70 := Try.underlying121
  a70 := Try.isAgg121
  z70 := Try.sizeOf121
  v70 := Try.zeroValue121
  t76 := Try.underlying127
  a76 := Try.isAgg127
  z76 := Try.sizeOf127
  v76 := Try.zeroValue127
  t77 := Try.underlying128
  a77 := Try.isAgg128
  z77 := Try.sizeOf128
  v77 := Try.zeroValue128 }
theorem heap_sortedV {α : Type} [Inhabited α] {enc : α → Value} {w : World} {g n : Nat} {os : Array Obj} {cur : Array Value} {e : TypeId} {fr : Nat × Nat} (d : Array α) (hb : w.heap[g]? = some (.cells cur e fr)) :
    (sortWorld enc w g 0 n d os).heap[g]? = some (.cells (putCells enc 0 d cur) e fr) := by
  have hg : g < w.heap.size := (Array.getElem?_eq_some_iff.1 hb).1
  unfold sortWorld putRow mapBlock grow Go.Sort.ahead
  simp only
  rw [Array.getElem?_append_left (by simpa using hg), Array.getElem?_modify, if_pos rfl, hb]
  rfl
theorem sortWorld_grown {α : Type} [Inhabited α] {enc : α → Value} {w : World} {g n : Nat} {os : Array Obj} (d : Array α) : w.grownBy (sortWorld enc w g 0 n d os) (some g) := by
  unfold sortWorld putRow mapBlock grow Go.Sort.ahead
  refine ⟨rfl, rfl, rfl, by simp, fun k hk hne => ?_⟩
  simp only
  rw [Array.getElem?_append_left (by simpa using hk), Array.getElem?_modify, if_neg (fun e => hne (by rw [e]))]
theorem take_putCellsV {α : Type} [Inhabited α] (enc : α → Value) (cur : Array Value) (d : Array α) (h : d.size ≤ cur.size) : (putCells enc 0 d cur).toList.take d.size = d.toList.map enc := by
  apply List.ext_getElem?
  intro j
  by_cases hj : j < d.size
  · rw [List.getElem?_take_of_lt hj, Array.getElem?_toList]
    simp [putCells, hj, show j < cur.size by omega]
  · rw [List.getElem?_take_eq_none (by omega), List.getElem?_eq_none (by simp; omega)]
/-- A group's slice, and what its row holds. -/
structure GV (w : World) (blk : Nat) where
  v : Value
  l : List Nat
  ok : ∃ a c, v = .slice (some ⟨a, 0, none⟩) l.length c ∧ a < w.heap.size ∧ a ≠ blk ∧ l ≠ [] ∧ w.cell? ⟨a, 0, none⟩ = some (.int .i64 (l.headD 0 : Nat))
theorem cmp37_any (a b la ca lb cb : Nat) (p q : Int) (w : World) (ha : w.cell? ⟨a, 0, none⟩ = some (.int .i64 p)) (hb : w.cell? ⟨b, 0, none⟩ = some (.int .i64 q)) (hla : 0 < la) (hlb : 0 < lb) :
    Calls Try.prog 37 #[.slice (some ⟨a, 0, none⟩) la ca, .slice (some ⟨b, 0, none⟩) lb cb] w fun e w' => e = .returned (.int .i64 (cmpI p q)) ∧ Laid w w' := by
  have hlaI : (0 : Int) < (la : Int) := by omega
  have hlbI : (0 : Int) < (lb : Int) := by omega
  go_enter Try.func37, Try.ntmps37
  go_upto_region 1 with fail
  go_region_held3 (fun W : World => W.cell? ⟨a, 0, none⟩ = some (.int .i64 p) ∧ W.cell? ⟨b, 0, none⟩ = some (.int .i64 q)) (go_keep) (first | (go_at_call 38; refine (cmp_any _ _ _).mono ?_; rintro e w' ⟨rfl, rfl⟩))
  all_goals go_wp2_with fail
  all_goals go_ret
  all_goals exact ⟨rfl, (Laid.refl _).drew⟩
theorem cf_swo {w : World} {blk : Nat} : SWO (ltOf fun (x y : GV w blk) => cmpI (x.l.headD 0 : Nat) (y.l.headD 0 : Nat)) where
  irrefl x := by simp [ltOf, cmpI]
  trans x y z h k := by
    simp only [ltOf, decide_eq_true_eq, cmpI_neg] at *
    omega
  ntrans x y z h k := by
    simp only [ltOf, decide_eq_false_iff_not, cmpI_neg] at *
    omega
def SortGPost (B : Nat) (w : World) (v : Value) (vals : List Value) (gs : List (List Nat)) (e : Ending) (w' : World) : Prop :=
  e = .returned (.tuple #[]) ∧ ∃ ps : List (Value × List Nat), ps.Perm (vals.zip gs) ∧ ps.Pairwise (fun a b => a.2.headD 0 ≤ b.2.headD 0) ∧ OwnV w' B v (ps.map (·.1)) ∧ w.grownBy w' v.ownBlock
theorem sortNilG (w : World) : Calls Try.prog 36 #[.slice none 0 0, .func (.func 37) #[] #[]] w fun e w' => e = .returned (.tuple #[]) ∧ w' = w := by
  have hi : ∀ W, Calls Try.prog 55 #[.slice none 0 0, .int .i64 0, .int .i64 0, .func (.func 37) #[] #[]] W fun e w' => e = .returned (.tuple #[]) ∧ w' = W := by
    intro W
    go_enter Try.func55, Try.ntmps55
    go_wp2
    refine wp_loop_rounds 1 ?_
    rw [rounds_succ]
    go_wp2
    exact bodyPost_end (v := .tuple #[]) (by simp [results, Try.results55, go_sem]) rfl ⟨rfl, rfl⟩
  have hp : ∀ (lim : Int) W, Calls Try.prog 49 #[.slice none 0 0, .int .i64 0, .int .i64 0, .int .i64 lim, .func (.func 37) #[] #[]] W fun e w' => e = .returned (.tuple #[]) ∧ w' = W := by
    intro lim W
    go_enter Try.func49, Try.ntmps49
    go_wp2_with fail
    refine wp_loop_rounds 1 ?_
    rw [rounds_succ]
    go_wp2_with (go_at_call 55; refine (hi _).mono ?_; rintro e w' ⟨rfl, rfl⟩)
    exact bodyPost_ret (v := .tuple #[]) (by simp [results, Try.results49, go_sem]) rfl ⟨rfl, rfl⟩
  have hl : Calls Try.prog 50 #[.int .u64 0] w fun e w' => e = .returned (.int .i64 (Lib.bitLen 0 : Nat)) ∧ w' = w := Any.bits_Len (SlLaysF0.n15.bits (P := Try.prog) (ρ := bitsLen_ren) bitsLen) (0 : Int) w (by omega) (by omega)
  generalize Lib.bitLen 0 = bl at hl
  go_enter Try.func36, Try.ntmps36
  go_wp2_with (first | (go_at_call 50; refine hl.mono ?_; rintro e w' ⟨rfl, rfl⟩) | (go_at_call 49; refine (hp _ _).mono ?_; rintro e w' ⟨rfl, rfl⟩))
  exact bodyPost_end (v := .tuple #[]) (by simp [results, Try.results36, go_sem]) rfl ⟨rfl, rfl⟩
/-- slices.SortFunc over groups by their first numbers. -/
theorem sortG_any {w : World} {B : Nat} {v : Value} {vals : List Value} {gs : List (List Nat)} (h : OwnV w B v vals) (hln : vals.length = gs.length) (hgr : ∀ (i : Nat) u l, vals[i]? = some u → gs[i]? = some l → OwnN w B u l) (hne : ∀ g ∈ gs, g ≠ [])
    (hap : ∀ u ∈ vals, ∀ k, u.ownBlock = some k → v.ownBlock ≠ some k) (hl : vals.length ≤ 100000) (hz : vals = [] → v = .slice none 0 0) :
    Calls Try.prog 36 #[v, .func (.func 37) #[] #[]] w (SortGPost B w v vals gs) := by
  rcases h.2 with ⟨rfl, h0⟩ | ⟨g, cap, cur, rfl, hB, hg, hle, hcm, hcs, htk⟩
  · have hv : vals = [] := List.eq_nil_of_length_eq_zero h0
    refine (sortNilG w).mono ?_
    rintro e w' ⟨rfl, rfl⟩
    exact ⟨rfl, [], by rw [hv]; simp, List.Pairwise.nil, World.ownsRow_nil _ _ _ _, ⟨rfl, rfl, rfl, Nat.le_refl _, fun _ _ _ => rfl⟩⟩
  · have hgood : ∀ p ∈ vals.zip gs, ∃ a c, p.1 = .slice (some ⟨a, 0, none⟩) p.2.length c ∧ a < w.heap.size ∧ a ≠ g ∧ p.2 ≠ [] ∧ w.cell? ⟨a, 0, none⟩ = some (.int .i64 (p.2.headD 0 : Nat)) := by
      rintro ⟨u, l⟩ hp
      obtain ⟨i, hi⟩ := List.mem_iff_getElem?.1 hp
      rw [List.getElem?_zip_eq_some] at hi
      have hl0 := hne l (List.mem_of_getElem? hi.2)
      have ho := hgr i u l hi.1 hi.2
      have hk := hap u (List.mem_of_getElem? hi.1)
      rcases ho.2 with ⟨_, h1⟩ | ⟨a, c, cu, rfl, _, ha, _⟩
      · exact absurd (List.eq_nil_of_length_eq_zero h1) hl0
      · refine ⟨a, c, rfl, blk_lt ha, fun e => hk a rfl (by rw [e]; rfl), hl0, ?_⟩
        cases l with
        | nil => exact absurd rfl hl0
        | cons z r =>
          have := ho.cells (g := a) rfl 0 (.int .i64 (z : Int)) (by simp [cellsN])
          rw [Addr.add_lit] at this
          exact this
    let xs : List (GV w g) := (vals.zip gs).attach.map fun p => ⟨p.1.1, p.1.2, hgood p.1 p.2⟩
    have hxs : xs.map (fun x => (x.v, x.l)) = vals.zip gs := by
      show ((vals.zip gs).attach.map fun p => (⟨p.1.1, p.1.2, hgood p.1 p.2⟩ : GV w g)).map (fun x => (x.v, x.l)) = vals.zip gs
      rw [List.map_map]
      exact List.attach_map_subtype_val _
    have hxv : xs.map (·.v) = vals := by
      have := congrArg (List.map Prod.fst) hxs
      rw [List.map_map, List.map_fst_zip (by omega)] at this
      exact this
    have hxl : xs.length = vals.length := (List.length_map _).symm.trans (congrArg List.length hxv)
    by_cases h0 : vals.length = 0
    · have hv : vals = [] := List.eq_nil_of_length_eq_zero h0
      have := hz hv
      cases this
    · obtain ⟨x0, hx0⟩ : ∃ x0, x0 ∈ xs := by
        cases hx : xs with
        | nil => rw [hx] at hxl; exact absurd hxl.symm h0
        | cons a r => exact ⟨a, List.mem_cons_self⟩
      haveI : Inhabited (GV w g) := ⟨x0⟩
      have hH : Holds (fun x : GV w g => x.v) w g 0 xs.toArray := by
        intro j hj
        have hj' : j < xs.length := by simpa using hj
        refine ⟨?_, blk_free hg _⟩
        rw [Nat.zero_add, blk_cell hg]
        have h1 : (cur.toList.take (vals.length * 1))[j]? = vals[j]? := by rw [htk]
        rw [List.getElem?_take_of_lt (by omega), Array.getElem?_toList] at h1
        rw [h1, ← hxv]
        simp [hj']
      have hs := Any.slices_SortFunc pdqG (fun x : GV w g => x.v) (fun x => by obtain ⟨a, c, h, _⟩ := x.ok; show x.v.oneCell' = true; rw [h]; rfl) (fun (x y : GV w g) => cmpI (x.l.headD 0 : Nat) (y.l.headD 0 : Nat)) cf_swo 37 #[] g 0 cap xs.toArray w
        (enters_of Try.func37 (by kernel_rfl) rfl) (fun m os dk _ x y => by
          obtain ⟨a, c, hv, ha, hag, hln, hc⟩ := x.ok
          obtain ⟨a', c', hv', ha', hag', hln', hc'⟩ := y.ok
          have hgw := sortWorld_grown (enc := fun x : GV w g => x.v) (w := w) (g := g) (n := m) (os := os) dk
          have h1 := cmp37_any a a' x.l.length c y.l.length c' (x.l.headD 0 : Nat) (y.l.headD 0 : Nat) (sortWorld (fun x : GV w g => x.v) w g 0 m dk os) ((World.cell?_of_block (w := w) (a := ⟨a, 0, none⟩) (hgw.block a ha (fun e => hag (by cases e; rfl)))).trans hc) ((World.cell?_of_block (w := w) (a := ⟨a', 0, none⟩) (hgw.block a' ha' (fun e => hag' (by cases e; rfl)))).trans hc') (List.length_pos_iff.2 hln) (List.length_pos_iff.2 hln')
          rw [← hv, ← hv'] at h1
          exact h1) hH (blk_lt hg) (by simp; omega)
      have hxa : xs.toArray.size = vals.length := by simp [hxl]
      rw [hxa] at hs
      refine hs.mono ?_
      rintro e w' ⟨rfl, d', n, os, hpm, hsd, rfl⟩
      have hds : d'.size = vals.length := hpm.1.trans hxa
      have hperm : d'.toList.Perm xs := by
        have h3 := hpm.2.2
        have e1 : d'.extract 0 vals.length = d' := by
          apply Array.ext
          · simp [hds]
          · intro i a b; simp
        have e2 : xs.toArray.extract 0 vals.length = xs.toArray := by
          apply Array.ext
          · simp [hxl]
          · intro i a b; simp
        rw [e1, e2] at h3
        simpa using h3
      refine ⟨rfl, d'.toList.map (fun x => (x.v, x.l)), by rw [← hxs]; exact hperm.map _, ?_, ?_, sortWorld_grown _⟩
      · rw [List.pairwise_map, List.pairwise_iff_getElem]
        intro i j hi hj hij
        have hi' : i < d'.size := by simpa using hi
        have hj' : j < d'.size := by simpa using hj
        have h1 := hsd i j (Nat.zero_le _) hij (by omega)
        have e1 : d'[i]! = d'.toList[i] := by simp [hi']
        have e2 : d'[j]! = d'.toList[j] := by simp [hj']
        rw [e1, e2] at h1
        simp only [ltOf, decide_eq_false_iff_not, cmpI_neg] at h1
        show d'.toList[i].l.headD 0 ≤ d'.toList[j].l.headD 0
        omega
      · have hmm : (d'.toList.map (fun x => (x.v, x.l))).map (·.1) = d'.toList.map (fun x => x.v) := by rw [List.map_map]; rfl
        rw [hmm]
        have hlm : (d'.toList.map (fun x : GV w g => x.v)).length = vals.length := by simp [hds]
        show World.ownsRow _ B 38 1 _ _ _
        rw [hlm]
        refine ⟨by rw [hlm]; omega, .inr ⟨g, cap, _, rfl, hB, heap_sortedV d' hg, hle, hcm, by simp [putCells, hcs], ?_⟩⟩
        have := take_putCellsV (fun x : GV w g => x.v) cur d' (by omega)
        rw [hds] at this
        rw [Nat.mul_one]
        exact this
end Go.Proofs.Ytbbfbkoanbdghaa
