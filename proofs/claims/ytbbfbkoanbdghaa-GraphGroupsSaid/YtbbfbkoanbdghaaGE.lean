/- A graph in memory: New, node, in, Edges. No statement is proved here. -/
import Derived.Test.YtbbfbkoanbdghaaGC
import Derived.Deep.RegionHeld3
import Derived.Laws.OwnMore
import Derived.Laws.MakeOwn
set_option linter.unusedVariables false
set_option linter.unusedSimpArgs false
namespace Go.Proofs.Ytbbfbkoanbdghaa
open Go.RowKit Go.Shelf Go.Lib
open Go.Sort hiding Below

abbrev OwnE (w : World) (v : Value) (l : List E) : Prop := w.ownsRow 0 29 3 v l.length (cellsE l)
theorem ownE_lt {w : World} {v : Value} {l : List E} (h : OwnE w v l) : ∀ k, v.ownBlock = some k → k < w.heap.size := by
  intro k hk
  rcases h.2 with ⟨rfl, _⟩ | ⟨g0, cap0, cur, rfl, k0, hg, rest⟩
  · simp [Value.ownBlock] at hk
  · simp [Value.ownBlock] at hk
    subst hk
    exact blk_lt hg
theorem ownE_kept {w w' : World} {v : Value} {l : List E} (h : OwnE w v l) (hb : ∀ k, v.ownBlock = some k → w'.heap[k]? = w.heap[k]?) : OwnE w' v l := by
  refine ⟨h.1, ?_⟩
  rcases h.2 with hh | ⟨g0, cap0, cur, rfl, k0, hg, rest⟩
  · exact .inl hh
  · exact .inr ⟨g0, cap0, cur, rfl, k0, (hb g0 rfl).trans hg, rest⟩
theorem ownE_below {w w' : World} {v : Value} {l : List E} (h : OwnE w v l) (hb : Below w.heap.size w w') : OwnE w' v l := ownE_kept h fun k hk => hb.block k (ownE_lt h k hk)
/-- The list that lies in row i: of the edges out of node i, or (from N on) into node i - N. -/
def rowE (es : List E) (N i : Nat) : List E := if i < N then es.filter (fun e => e.frm == (i : Int)) else es.filter (fun e => e.to == ((i - N : Nat) : Int))
def okE (N : Nat) (e : E) : Prop := 0 ≤ e.frm ∧ e.frm < N ∧ 0 ≤ e.to ∧ e.to < N ∧ 1 ≤ e.lab ∧ e.lab ≤ 8
structure Gr (B : Nat) (w : World) (g N : Nat) (es : List E) (mb ob bb : Nat) (oc bc : Array Value) (vs : Nat → Value) : Prop where
  hg : w.heap[g]? = some (.cells #[.int .i64 (N : Int), .map (some mb), .slice (some ⟨ob, 0, none⟩) N N, .slice (some ⟨bb, 0, none⟩) N N] 65 (0, 0))
  map : GMap w mb es
  ho : w.heap[ob]? = some (.cells oc 30 (0, 0))
  hb : w.heap[bb]? = some (.cells bc 30 (0, 0))
  so : oc.size = N
  sb : bc.size = N
  co : ∀ i, i < N → oc[i]? = some (vs i)
  cb : ∀ i, i < N → bc[i]? = some (vs (N + i))
  row : ∀ i, i < 2 * N → OwnE w (vs i) (rowE es N i)
  ap : g ≠ mb ∧ g ≠ ob ∧ g ≠ bb ∧ mb ≠ ob ∧ mb ≠ bb ∧ ob ≠ bb
  rows : ∀ i, i < 2 * N → ∀ k, (vs i).ownBlock = some k → k ≠ g ∧ k ≠ mb ∧ k ≠ ob ∧ k ≠ bb ∧ B ≤ k
  pair : ∀ i j, i < 2 * N → j < 2 * N → i ≠ j → ∀ k, (vs i).ownBlock = some k → (vs j).ownBlock ≠ some k
  ok : ∀ e ∈ es, okE N e
  len : es.length ≤ 65536
  nn : N ≤ 1024
  base : B ≤ g ∧ B ≤ mb ∧ B ≤ ob ∧ B ≤ bb
section
variable {B : Nat} {w w' : World} {g N : Nat} {es : List E} {mb ob bb : Nat} {oc bc : Array Value} {vs : Nat → Value}
theorem Gr.below (h : Gr B w g N es mb ob bb oc bc vs) (hb : Below w.heap.size w w') : Gr B w' g N es mb ob bb oc bc vs :=
  ⟨(hb.block g (blk_lt h.hg)).trans h.hg, h.map.kept (hb.block mb h.map.lt), (hb.block ob (blk_lt h.ho)).trans h.ho, (hb.block bb (blk_lt h.hb)).trans h.hb, h.so, h.sb, h.co, h.cb, fun i hi => ownE_below (h.row i hi) hb, h.ap, h.rows, h.pair, h.ok, h.len, h.nn, h.base⟩
end
theorem drew_heap (w : World) : w.drew.heap = w.heap := rfl
theorem alloc_heap (w : World) (o : Obj) : (w.alloc o).heap = w.heap.push o := rfl
theorem gmap_made {w : World} {b : Nat} (h : w.heap[b]? = some (.map #[] 0)) : GMap w b [] := by
  refine ⟨.map [], ?_, rfl, List.Pairwise.nil, fun e he => by simp at he, fun kl => by simp [Maps.has], fun e he => by simp at he⟩
  obtain ⟨es0, clock, hb, rest⟩ := World.ownsMap_made (H := Unit) w Try.prog 29 (plainElem Try.prog 3)
  have e : (w.alloc (.map #[] 0)).heap[w.heap.size]? = some (.map #[] 0) := World.alloc_heap_new w _
  rw [e] at hb
  cases hb
  exact ⟨#[], 0, h, rest⟩
theorem gr_made {B : Nat} {w : World} {g N mb ob bb : Nat} (hg : w.heap[g]? = some (.cells #[.int .i64 (N : Int), .map (some mb), .slice (some ⟨ob, 0, none⟩) N N, .slice (some ⟨bb, 0, none⟩) N N] 65 (0, 0))) (hm : w.heap[mb]? = some (.map #[] 0)) (ho : w.heap[ob]? = some (.cells (madeCells #[.slice none 0 0] N) 30 (0, 0)))
    (hb : w.heap[bb]? = some (.cells (madeCells #[.slice none 0 0] N) 30 (0, 0))) (hob : ob ≠ bb) (hN : N ≤ 1024) (hB : B ≤ g ∧ B ≤ mb ∧ B ≤ ob ∧ B ≤ bb) : Gr B w g N [] mb ob bb (madeCells #[.slice none 0 0] N) (madeCells #[.slice none 0 0] N) (fun _ => .slice none 0 0) := by
  have hc : ∀ i, i < N → (madeCells #[.slice none 0 0] N)[i]? = some (.slice none 0 0) := fun i hi => by
    rw [← Array.getElem?_toList, toList_madeCells_one, List.getElem?_replicate, if_pos hi]
  have hs : (madeCells #[.slice none 0 0] N).size = N := by rw [size_madeCells]
  refine ⟨hg, gmap_made hm, ho, hb, hs, hs, hc, hc, fun i _ => ?_, ⟨?_, ?_, ?_, ?_, ?_, hob⟩, fun i _ k hk => by simp [Value.ownBlock] at hk, fun i j _ _ _ k hk => by simp [Value.ownBlock] at hk, fun e he => by simp at he, by simp, hN, hB⟩
  · have e : rowE [] N i = [] := by unfold rowE; split <;> rfl
    rw [e]
    exact World.ownsRow_nil _ _ _ _
  · intro e; subst e; rw [hg] at hm; cases hm
  · intro e; subst e; rw [hg] at ho; exact absurd (Obj.cells.inj (Option.some.inj ho)).2.1 (by decide)
  · intro e; subst e; rw [hg] at hb; exact absurd (Obj.cells.inj (Option.some.inj hb)).2.1 (by decide)
  · intro e; subst e; rw [hm] at ho; cases ho
  · intro e; subst e; rw [hm] at hb; cases hb
theorem new1 (w : World) (a b c d : Obj) : ((((w.alloc a).alloc b).alloc c).alloc d).drew.heap[w.heap.size]? = some a := by
  simp only [drew_heap, alloc_heap]
  rw [Array.getElem?_push, if_neg (by simp <;> omega), Array.getElem?_push, if_neg (by simp <;> omega), Array.getElem?_push, if_neg (by simp), Array.getElem?_push, if_pos rfl]
theorem new2 (w : World) (a b c d : Obj) : ((((w.alloc a).alloc b).alloc c).alloc d).drew.heap[w.heap.size + 1]? = some b := by
  simp only [drew_heap, alloc_heap]
  rw [Array.getElem?_push, if_neg (by simp <;> omega), Array.getElem?_push, if_neg (by simp), Array.getElem?_push, if_pos (by simp)]
theorem new3 (w : World) (a b c d : Obj) : ((((w.alloc a).alloc b).alloc c).alloc d).drew.heap[w.heap.size + 1 + 1]? = some c := by
  simp only [drew_heap, alloc_heap]
  rw [Array.getElem?_push, if_neg (by simp), Array.getElem?_push, if_pos (by simp)]
theorem new4 (w : World) (a b c d : Obj) : ((((w.alloc a).alloc b).alloc c).alloc d).drew.heap[w.heap.size + 1 + 1 + 1]? = some d := by
  simp only [drew_heap, alloc_heap]
  rw [Array.getElem?_push, if_pos (by simp)]
/-! ### New -/
theorem new_bad (n : Int) (w : World) (h : n < 0 ∨ 1024 < n) : Calls Try.prog 11 #[.int .i64 n] w fun e w' => e = .returned (.tuple #[.pointer none, .int .i64 190]) ∧ w' = w := by
  rcases h with h | h
  · go_enter Try.func11, Try.ntmps11
    go_wp2_with fail
    go_ret2
    exact ⟨rfl, rfl⟩
  · have h0 : ¬ n < 0 := by omega
    go_enter Try.func11, Try.ntmps11
    go_wp2_with fail
    go_ret2
    exact ⟨rfl, rfl⟩
def NewPost (B N : Nat) (w : World) (e : Ending) (w' : World) : Prop := ∃ g mb ob bb oc bc vs, e = .returned (.tuple #[.pointer (some ⟨g, 0, none⟩), .int .i64 0]) ∧ Gr B w' g N [] mb ob bb oc bc vs ∧ Below w.heap.size w w'
theorem infoSE : (Try.prog.info? 30).map (fun i => (i.zero, i.size, i.bytes)) = some (some (.slice none 0 0), 1, 24) := by kernel_rfl
set_option maxHeartbeats 2000000 in
set_option maxRecDepth 100000 in
theorem new_good (B N : Nat) (w : World) (hN : N ≤ 1024) (hB : B ≤ w.heap.size) : Calls Try.prog 11 #[.int .i64 (N : Int)] w (NewPost B N w) := by
  obtain ⟨ti, hi, hz0, hz1, hz2⟩ := info_parts infoSE
  have hmk : ∀ u : World, (Instr.makeSlice 63 (.int .i64 (N : Int)) (.int .i64 (N : Int))).run Try.prog u = .ok (.slice (some ⟨u.heap.size, 0, none⟩) N N) (u.alloc (.cells (madeCells #[.slice none 0 0] N) 30)) := fun u => by
    have h := run_make (P := Try.prog) u 63 30 ti _ Try.underlying63 hi hz0 .i64 .i64 (N : Int) (N : Int) (by omega) (by omega) (by rw [hz2]; omega) (by omega)
    rw [hz1] at h
    simpa [Value.cells] using h
  have hmm := @run_makeMap Try.prog
  have h0 : ¬ (N : Int) < 0 := by omega
  have h1 : (N : Int) ≤ 1024 := by omega
  go_enter Try.func11, Try.ntmps11
  go_upto_region 3 with fail
  go_region
  all_goals
    go_wp2_with fail
    go_ret2
    refine ⟨_, _, _, _, _, _, _, rfl, gr_made (new4 _ _ _ _ _) ?_ ?_ ?_ ?_ hN ?_, (((((Below.refl _ w).alloc (Nat.le_refl _) _).alloc (by simp) _).alloc (by simp; omega) _).alloc (by simp; omega) _).drew⟩
    · first | exact new1 _ _ _ _ _ | exact new2 _ _ _ _ _ | exact new3 _ _ _ _ _
    · first | exact new1 _ _ _ _ _ | exact new2 _ _ _ _ _ | exact new3 _ _ _ _ _
    · first | exact new1 _ _ _ _ _ | exact new2 _ _ _ _ _ | exact new3 _ _ _ _ _
    · omega
    · exact ⟨by omega, by omega, by omega, by omega⟩
/-! ### node, in -/
def nodeB (N : Nat) (i : Int) : Bool := decide (0 ≤ i) && decide (i < (N : Int))
section
variable {B : Nat} {w w' : World} {g N : Nat} {es : List E} {mb ob bb : Nat} {oc bc : Array Value} {vs : Nat → Value}
theorem node_any (h : Gr B w g N es mb ob bb oc bc vs) (i : Int) : Calls Try.prog 28 #[.pointer (some ⟨g, 0, none⟩), .int .i64 i] w fun e w' => e = .returned (.bool (nodeB N i)) ∧ w' = w := by
  have c0 : w.cell? ⟨g, 0, none⟩ = some (.int .i64 (N : Int)) := (blk_cell h.hg 0).trans rfl
  by_cases h0 : 0 ≤ i
  · have d0 : decide (0 ≤ i) = true := decide_eq_true h0
    go_enter Try.func28, Try.ntmps28
    go_wp2
    go_ret
    exact ⟨by simp [nodeB, h0], rfl⟩
  · have d0 : decide (0 ≤ i) = false := decide_eq_false h0
    go_enter Try.func28, Try.ntmps28
    go_wp2
    go_ret
    exact ⟨by simp [nodeB]; omega, rfl⟩
end
def inM (lab mask : Int) : Bool := bits BinOp.and IntKind.i64 (mask / 2 ^ (lab.toNat - 1)) 1 == 1
theorem in_any (x : E) (mask : Int) (w : World) (h1 : 1 ≤ x.lab) (h8 : x.lab ≤ 8) : Calls Try.prog 34 #[x.agg, .int .i64 mask] w fun e w' => e = .returned (.bool (inM x.lab mask)) ∧ Laid w w' := by
  go_enter Try.func34, Try.ntmps34
  go_wp2
  go_ret
  exact ⟨rfl, (Laid.refl _).alloc _⟩
/-! ### Edges -/
def ListE (w : World) (es : List E) (e : Ending) (w' : World) : Prop := ∃ (v : Value) (ss : List E), e = .returned v ∧ ss.Perm es ∧ ss.Pairwise ltE ∧ OwnE w' v ss ∧ (∀ k, v.ownBlock = some k → w.heap.size ≤ k) ∧ Below w.heap.size w w'
theorem own_holdsE {w : World} {g n cap : Nat} {l : List E} (h : OwnE w (.slice (some ⟨g, 0, none⟩) n cap) l) : HoldsK E.cs 3 w g 0 l.toArray ∧ g < w.heap.size ∧ n = l.length := by
  rcases h.2 with ⟨hh, _⟩ | ⟨g0, cap0, cur, hv0, k0, hg, rest⟩
  · cases hh
  · have e : g = g0 := by simp at hv0; exact hv0.1
    have e2 : n = l.length := by cases hv0; rfl
    subst e
    refine ⟨?_, blk_lt hg, e2⟩
    intro t ht
    have ht' : t < l.length * 3 := by simpa using ht
    have hi : t / 3 < l.length := by omega
    have hj : t % 3 < 3 := by omega
    have hc := h.cells (g := g) rfl t
    have hget := cellsE_get l (t / 3) (t % 3) hi hj
    rw [show t / 3 * 3 + t % 3 = t by omega] at hget
    refine ⟨?_, by rw [Nat.zero_add]; exact blk_free hg t⟩
    rw [get_flatK _ _ _ _ (by simpa using ht')]
    have hv : ∃ v, (l[t / 3]).cs[t % 3]? = some v := ⟨_, List.getElem?_eq_getElem (by rw [E.cs_length]; exact hj)⟩
    obtain ⟨v, hv⟩ := hv
    have h1 := hc v (hget.trans hv)
    rw [Addr.add_lit] at h1
    have e3 : l.toArray[t / 3]! = l[t / 3] := by simp [hi]
    rw [e3]
    have e4 : (l[t / 3]).cs[t % 3]! = v := by
      rw [List.getElem!_eq_getElem?_getD, hv]; rfl
    rw [e4]
    exact h1
theorem own_swkE {w w' : World} {g n cap : Nat} {l : List E} {d' : Array E} (h : OwnE w (.slice (some ⟨g, 0, none⟩) n cap) l) (S : SWK E.cs 3 w g 0 d' w') (hs : d'.size = l.length) : OwnE w' (.slice (some ⟨g, 0, none⟩) n cap) d'.toList := by
  have hH := own_holdsE h
  have hH' := S.holds hH.2.1 hH.1 (by simpa using hs)
  rcases h.2 with ⟨hh, _⟩ | ⟨g0, cap0, cur, hv0, k0, hg, hle, hcm, hcs, htk⟩
  · cases hh
  · have e : g = g0 := by simp at hv0; exact hv0.1
    subst e
    have hg' : ∃ cur', w'.heap[g]? = some (.cells cur' 29 (0, 0)) ∧ cur'.size = cur.size := by
      obtain ⟨m, os, rfl⟩ := S
      refine ⟨putCells id 0 (flatK E.cs 3 d') cur, ?_, by simp [putCells]⟩
      unfold sortWorldK putRowK putRow mapBlock grow Go.Sort.ahead
      simp only
      rw [Array.getElem?_append_left (by simpa using hH.2.1), Array.getElem?_modify, if_pos rfl, hg]
      rfl
    obtain ⟨cur', hg1, hsz⟩ := hg'
    refine ⟨cellsE_length _, .inr ⟨g, cap0, cur', by simpa [hs] using hv0, k0, hg1, by simpa [hs] using hle, hcm, by rw [hsz]; exact hcs, ?_⟩⟩
    have hle' : d'.toList.length * 3 ≤ cur'.size := by
      rw [hsz, hcs]
      exact Nat.mul_le_mul_right _ (by simpa [hs] using hle)
    apply List.ext_getElem?
    intro t
    by_cases ht : t < d'.toList.length * 3
    · rw [List.getElem?_take, if_pos ht]
      have ht' : t < d'.size * 3 := by simpa using ht
      have hi : t / 3 < d'.toList.length := by omega
      have hj : t % 3 < 3 := by omega
      have hc := (hH' t (by simpa using ht')).1
      rw [get_flatK _ _ _ _ ht', Nat.zero_add, blk_cell hg1] at hc
      have hget := cellsE_get d'.toList (t / 3) (t % 3) hi hj
      rw [show t / 3 * 3 + t % 3 = t by omega] at hget
      rw [hget, Array.getElem?_toList, hc]
      have e3 : d'[t / 3]! = d'.toList[t / 3] := by
        have : t / 3 < d'.size := by simpa using hi
        simp [this]
      rw [e3]
      simp only [id]
      rw [List.getElem!_eq_getElem?_getD, List.getElem?_eq_getElem (by rw [E.cs_length]; exact hj)]
      rfl
    · rw [List.getElem?_eq_none (by rw [List.length_take]; omega), List.getElem?_eq_none (by rw [cellsE_length]; omega)]
theorem sortNil (w : World) : Calls Try.prog 45 #[.slice none 0 0, .func (.func 31) #[] #[]] w fun e w' => e = .returned (.tuple #[]) ∧ w' = w := by
  have hi : ∀ W, Calls Try.prog 65 #[.slice none 0 0, .int .i64 0, .int .i64 0, .func (.func 31) #[] #[]] W fun e w' => e = .returned (.tuple #[]) ∧ w' = W := by
    intro W
    go_enter Try.func65, Try.ntmps65
    go_wp2
    refine wp_loop_rounds 1 ?_
    rw [rounds_succ]
    go_wp2
    exact bodyPost_end (v := .tuple #[]) (by simp [results, Try.results65, go_sem]) rfl ⟨rfl, rfl⟩
  have hp : ∀ (lim : Int) W, Calls Try.prog 53 #[.slice none 0 0, .int .i64 0, .int .i64 0, .int .i64 lim, .func (.func 31) #[] #[]] W fun e w' => e = .returned (.tuple #[]) ∧ w' = W := by
    intro lim W
    go_enter Try.func53, Try.ntmps53
    go_wp2_with fail
    refine wp_loop_rounds 1 ?_
    rw [rounds_succ]
    go_wp2_with (go_at_call 65; refine (hi _).mono ?_; rintro e w' ⟨rfl, rfl⟩)
    exact bodyPost_ret (v := .tuple #[]) (by simp [results, Try.results53, go_sem]) rfl ⟨rfl, rfl⟩
  have hl : Calls Try.prog 50 #[.int .u64 0] w fun e w' => e = .returned (.int .i64 (Lib.bitLen 0 : Nat)) ∧ w' = w := Any.bits_Len (SlLaysF0.n15.bits (P := Try.prog) (ρ := bitsLen_ren) bitsLen) (0 : Int) w (by omega) (by omega)
  generalize Lib.bitLen 0 = bl at hl
  go_enter Try.func45, Try.ntmps45
  go_wp2_with (first | (go_at_call 50; refine hl.mono ?_; rintro e w' ⟨rfl, rfl⟩) | (go_at_call 53; refine (hp _ _).mono ?_; rintro e w' ⟨rfl, rfl⟩))
  exact bodyPost_end (v := .tuple #[]) (by simp [results, Try.results45, go_sem]) rfl ⟨rfl, rfl⟩
theorem swk_upd {w w' : World} {g : Nat} {d' : Array E} (S : SWK E.cs 3 w g 0 d' w') : Upd (fun k => k = g) w w' := by
  obtain ⟨n, os, rfl⟩ := S
  unfold sortWorldK putRowK putRow mapBlock grow Go.Sort.ahead
  refine ⟨rfl, rfl, rfl, by simp, fun b hb hne => ?_⟩
  simp only
  rw [Array.getElem?_append_left (by simpa using hb), Array.getElem?_modify, if_neg (fun e => hne e.symm)]
theorem permE {n : Nat} {l : List E} {d : Array E} (hn : n = l.length) (h : PermIn 0 n l.toArray d) : d.toList.Perm l := by
  obtain ⟨h1, _, h3⟩ := h
  have hs : d.size = n := by rw [h1, hn]; simp
  have e1 : d.extract 0 n = d := by
    apply Array.ext
    · simp [hs]
    · intro i a b; simp
  have e2 : l.toArray.extract 0 n = l.toArray := by
    apply Array.ext
    · simp [hn]
    · intro i a b; simp
  rw [e1, e2] at h3
  exact h3
theorem sortedE {n : Nat} {d : Array E} (hn : d.size = n) (h : SortedIn (ltOf cmpE) 0 n d) (hnd : d.toList.Nodup) : d.toList.Pairwise ltE := by
  rw [List.pairwise_iff_getElem]
  intro i j hi hj hij
  have hi' : i < d.size := by simpa using hi
  have hj' : j < d.size := by simpa using hj
  have h1 := h i j (Nat.zero_le _) hij (by omega)
  have e1 : d[i]! = d.toList[i] := by simp [hi']
  have e2 : d[j]! = d.toList[j] := by simp [hj']
  rw [e1, e2] at h1
  have hne : d.toList[i] ≠ d.toList[j] := (List.pairwise_iff_getElem.1 hnd) i j hi hj hij
  rcases ltE_total hne with h2 | h2
  · exact h2
  · rw [(lt_iff _ _).2 h2] at h1
    cases h1
set_option maxHeartbeats 2000000 in
set_option maxRecDepth 100000 in
theorem sorted_any (Bm b : Nat) (es : List E) (w : World) (hBm : Bm < w.heap.size) (hm : w.cell? ⟨Bm, 0, none⟩ = some (.map (some b))) (hg : GMap w b es) (hN : es.length ≤ 65536) :
    Calls Try.prog 29 #[.func (.func 46) #[] #[.pointer (some ⟨Bm, 0, none⟩)], .func (.func 31) #[] #[]] w (ListE w es) := by
  have hc := collect_any Bm b es w hBm hm hg hN
  have hnd : es.Nodup := by obtain ⟨_, _, _, h, _⟩ := hg; exact h
  have HC := hid hc
  have ND := hid hnd
  clear hc hnd hg hm
  go_enter Try.func29, Try.ntmps29
  go_wp2_with fail
  refine HC.out.mono ?_
  rintro e w1 ⟨v, ss, rfl, hp, hrow, hnil, hb⟩
  have hO : OwnE w1 v ss := ownsRow_base_a hrow (Nat.zero_le _)
  have hnew : ∀ k, v.ownBlock = some k → w.heap.size ≤ k := fun k hk => by
    rcases hrow.2 with ⟨rfl, _⟩ | ⟨g0, c0, cur, rfl, hb0, _⟩
    · simp [Value.ownBlock] at hk
    · simp [Value.ownBlock] at hk; omega
  have HP := hid hp
  have HB := hid hb
  clear hp hb HC
  rcases hO.2 with ⟨rfl, hz⟩ | ⟨g0, cap, cur, rfl, k0, hg0, rest⟩
  · have hss : ss = [] := hnil.1 rfl
    subst hss
    clear hrow hnil hO hnew
    go_wp2_with (go_at_call 45; refine (sortNil _).mono ?_; rintro e w' ⟨rfl, rfl⟩)
    go_ret
    exact ⟨_, [], rfl, HP.out, List.Pairwise.nil, World.ownsRow_nil _ _ _ _, fun k hk => by simp [Value.ownBlock] at hk, HB.out⟩
  · obtain ⟨hH, hgl, _⟩ := own_holdsE hO
    have hlen : ss.length ≤ 65536 := by rw [HP.out.length_eq]; exact hN
    have hs := sort_any g0 cap ss.toArray w1 hH hgl (by simp; omega)
    rw [show ss.toArray.size = ss.length by simp] at hs
    have HS := hid hs
    have HO := hid hO
    have hg0' : w.heap.size ≤ g0 := hnew g0 rfl
    clear hs hO hrow hnil hnew hg0 rest hH
    obtain ⟨n, hn⟩ : ∃ n, n = ss.length := ⟨_, rfl⟩
    rw [← hn] at HS HO hlen ⊢
    have HN := hid hn
    clear hn
    go_wp2_with (go_at_call 45; refine HS.out.mono ?_; rintro e w2 ⟨rfl, d, hperm, hsort, hS⟩)
    go_ret
    have hds : d.size = n := hperm.1.trans (by simp [HN.out])
    have hpe := permE HN.out hperm
    have ho2 := own_swkE HO.out hS (by rw [hds]; exact HN.out)
    rw [show n = d.toList.length by simp [hds]] at ho2
    refine ⟨_, d.toList, ?_, hpe.trans HP.out, sortedE hds hsort ((hpe.trans HP.out).nodup_iff.2 ND.out), ho2, fun k hk => by cases hk; exact hg0', HB.out.trans ((swk_upd hS).below HB.out.size (fun k hk => hk ▸ hg0'))⟩
    simp [hds]
theorem edges_any {B : Nat} {w : World} {g N : Nat} {es : List E} {mb ob bb : Nat} {oc bc : Array Value} {vs : Nat → Value} (h : Gr B w g N es mb ob bb oc bc vs) : Calls Try.prog 13 #[.pointer (some ⟨g, 0, none⟩)] w (ListE w es) := by
  have c1 : w.cell? ⟨g, 1, none⟩ = some (.map (some mb)) := (blk_cell h.hg 1).trans rfl
  have hal := (Below.refl _ w).alloc (Nat.le_refl _) (.cells #[.map (some mb)] 62)
  have hs := sorted_any w.heap.size mb es (w.alloc (.cells #[.map (some mb)] 62)) (by simp) ((blk_cell (heap_alloc_new _ _) 0).trans rfl) (h.map.kept (hal.block mb h.map.lt)) h.len
  have HS := hid hs
  have HA := hid hal
  clear hs hal
  go_enter Try.func13, Try.ntmps13
  go_wp2_with (first | (go_at_call 30; refine (keys_any _ _).mono ?_; rintro e w' ⟨rfl, rfl⟩) | (go_at_call 29; refine HS.out.mono ?_; rintro e w1 ⟨v, ss, rfl, hp, hs, ho, hn, hb⟩))
  go_ret
  exact ⟨v, ss, rfl, hp, hs, ho, fun k hk => by have := hn k hk; simp at this; omega, HA.out.trans (hb.mono (by simp))⟩
end Go.Proofs.Ytbbfbkoanbdghaa
