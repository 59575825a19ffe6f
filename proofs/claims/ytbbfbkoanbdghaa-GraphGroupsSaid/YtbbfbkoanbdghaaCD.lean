/- Components. No statement is proved here. -/
import Derived.Test.YtbbfbkoanbdghaaCC
import Derived.Test.YtbbfbkoanbdghaaCT
import Derived.Deep.CutRange
set_option linter.unusedVariables false
set_option linter.unusedSimpArgs false
namespace Go.Proofs.Ytbbfbkoanbdghaa
open Go.RowKit

/-- A list of lists of numbers, each in memory of its own. -/
structure GsM (w : World) (B : Nat) (v : Value) (vals : List Value) (gs : List (List Nat)) : Prop where
  row : OwnV w B v vals
  ln : vals.length = gs.length
  gr : ∀ (i : Nat) u l, vals[i]? = some u → gs[i]? = some l → OwnN w B u l
  ap : ∀ u ∈ vals, ∀ k, u.ownBlock = some k → v.ownBlock ≠ some k
  pr : vals.Pairwise (fun u u' => ∀ k, u.ownBlock = some k → u'.ownBlock ≠ some k)
theorem GsM.below {w w' : World} {B : Nat} {v : Value} {vals : List Value} {gs : List (List Nat)} (h : GsM w B v vals gs) (hb : Below w.heap.size w w') : GsM w' B v vals gs :=
  ⟨World.ownsRow.below' h.row hb, h.ln, fun i u l hu hl => World.ownsRow.below' (h.gr i u l hu hl) hb, h.ap, h.pr⟩
theorem flatten_disj : ∀ gs : List (List Nat), gs.flatten.Nodup → gs.Pairwise (fun a b => ∀ y ∈ a, y ∉ b)
  | [], _ => List.Pairwise.nil
  | g :: r, h => by
    rw [List.flatten_cons, List.nodup_append] at h
    exact List.Pairwise.cons (fun b hb y hy hyb => h.2.2 y hy y (List.mem_flatten.2 ⟨b, hb, hyb⟩) rfl) (flatten_disj r h.2.1)
def CompPost (w : World) (es : List E) (N : Nat) (mask : Int) (e : Ending) (w' : World) : Prop := ∃ v vals gs, e = .returned v ∧ GsM w' w.heap.size v vals gs ∧ Grp (Edge es mask) N gs ∧ gs.Pairwise (fun a b => a.headD 0 < b.headD 0) ∧ Below w.heap.size w w'
theorem tm_made {B : Nat} {w : World} {t g sb lb ob : Nat} {mask : Int} {N : Nat} (ht : w.heap[t]? = some (.cells #[.pointer (some ⟨g, 0, none⟩), .int .i64 mask, .slice (some ⟨sb, 0, none⟩) N N, .slice (some ⟨lb, 0, none⟩) N N, .slice none 0 0, .slice (some ⟨ob, 0, none⟩) N N, .int .i64 0, .slice none 0 0] 77 (0, 0)))
    (hs : w.heap[sb]? = some (.cells (madeCells #[.int .i64 0] N) 3 (0, 0))) (hl : w.heap[lb]? = some (.cells (madeCells #[.int .i64 0] N) 3 (0, 0))) (ho : w.heap[ob]? = some (.cells (madeCells #[.bool false] N) 4 (0, 0)))
    (ap : t ≠ sb ∧ t ≠ lb ∧ t ≠ ob ∧ sb ≠ lb ∧ sb ≠ ob ∧ lb ≠ ob) (base : B ≤ t ∧ B ≤ sb ∧ B ≤ lb ∧ B ≤ ob) : TM B w t g sb lb ob mask N (tvs ⟨0, fun _ => 0, fun _ => 0, [], []⟩ (.slice none 0 0) (.slice none 0 0) []) := by
  have hI : ∀ b, w.heap[b]? = some (.cells (madeCells #[.int .i64 0] N) 3 (0, 0)) → IntRow w b N (fun y => ((0 : Nat) : Int)) := fun b hb => ⟨_, hb, by rw [size_madeCells], fun i hi => by rw [← Array.getElem?_toList, toList_madeCells_one, List.getElem?_replicate, if_pos hi]; rfl⟩
  exact ⟨ht, hI sb hs, hI lb hl, ⟨_, ho, by rw [size_madeCells], fun i hi => by rw [← Array.getElem?_toList, toList_madeCells_one, List.getElem?_replicate, if_pos hi]; rfl⟩, World.ownsRow_nil _ _ _ _, World.ownsRow_nil _ _ _ _, rfl, fun i u l hu => by simp [tvs] at hu, ap, fun k hk => by simp [tvs, Value.ownBlock] at hk, fun k hk => by simp [tvs, Value.ownBlock] at hk, fun i u hu => by simp [tvs] at hu, fun i j u u' _ hu => by simp [tvs] at hu, base⟩
theorem tm_gs {B : Nat} {w : World} {t g sb lb ob : Nat} {mask : Int} {N : Nat} {v : TV} (h : TM B w t g sb lb ob mask N v) : GsM w B v.vF v.vals v.fnd :=
  ⟨h.fd, h.ln, h.gr, fun u hu k hk => by
    obtain ⟨i, hi⟩ := List.mem_iff_getElem?.1 hu
    exact (h.aG i u hi k hk).2.2.2.2.2, by
    rw [List.pairwise_iff_getElem]
    intro i j hi hj hij k
    exact h.pr i j _ _ (by omega) (List.getElem?_eq_getElem hi) (List.getElem?_eq_getElem hj) k⟩
/-- Behind the sort. -/
theorem gs_sorted {w w' : World} {B N : Nat} {R : Nat → Nat → Prop} {v : Value} {vals : List Value} {gs : List (List Nat)} (h : GsM w B v vals gs) (hG : Grp R N gs) {ps : List (Value × List Nat)} (hp : ps.Perm (vals.zip gs)) (hs : ps.Pairwise (fun a b => a.2.headD 0 ≤ b.2.headD 0)) (ho : OwnV w' B v (ps.map (·.1))) (hg : w.grownBy w' v.ownBlock) :
    GsM w' B v (ps.map (·.1)) (ps.map (·.2)) ∧ Grp R N (ps.map (·.2)) ∧ (ps.map (·.2)).Pairwise (fun a b => a.headD 0 < b.headD 0) := by
  have hv : (ps.map (·.1)).Perm vals := by
    have := hp.map (·.1)
    rwa [List.map_fst_zip (by have := h.ln; omega)] at this
  have hgs : (ps.map (·.2)).Perm gs := by
    have := hp.map (·.2)
    rwa [List.map_snd_zip (by have := h.ln; omega)] at this
  have hG' := hG.perm hgs
  refine ⟨⟨ho, by simp, fun i u l hu hl => ?_, fun u hu => h.ap u (hv.mem_iff.1 hu), ?_⟩, hG', ?_⟩
  · rw [List.getElem?_map] at hu hl
    obtain ⟨p, hpi, rfl⟩ := Option.map_eq_some_iff.1 hu
    rw [hpi] at hl
    have hl : p.2 = l := by simpa using hl
    obtain ⟨j, hj⟩ := List.mem_iff_getElem?.1 (hp.mem_iff.1 (List.mem_of_getElem? hpi))
    rw [List.getElem?_zip_eq_some] at hj
    have h1 := h.gr j p.1 p.2 hj.1 hj.2
    rw [← hl]
    exact own_keep h1 fun k hk => hg.block k (h1.lt k hk).2 (fun e => h.ap p.1 (List.mem_of_getElem? hj.1) k hk e.symm)
  · exact (hv.pairwise_iff (fun {a b} hab k h1 h2 => hab k h2 h1)).2 h.pr
  · have hd := flatten_disj _ hG'.dis
    have hs' : (ps.map (·.2)).Pairwise (fun a b => a.headD 0 ≤ b.headD 0) := List.pairwise_map.2 hs
    refine (hs'.and hd).imp_of_mem fun {a b} ha hb hab => ?_
    have hmem : ∀ c ∈ ps.map (·.2), c.headD 0 ∈ c := fun c hc => by
      have := (hG'.scc c hc).1
      cases c with
      | nil => exact absurd rfl this
      | cons z r => exact List.mem_cons_self
    refine Nat.lt_of_le_of_ne hab.1 fun e => hab.2 _ (hmem a ha) ?_
    rw [e]
    exact hmem b hb
set_option maxHeartbeats 4000000 in
set_option maxRecDepth 100000 in
theorem comps_any {B : Nat} {w : World} {g N : Nat} {es : List E} {mb gb bb : Nat} {oc bc : Array Value} {vs : Nat → Value} (h : Gr B w g N es mb gb bb oc bc vs) (mask : Int) :
    Calls Try.prog 22 #[.pointer (some ⟨g, 0, none⟩), .int .i64 mask] w (CompPost w es N mask) := by
  obtain ⟨ti, hi, hz0, hz1, hz2⟩ := info_parts infoI
  obtain ⟨tb, hbi, hbz0, hbz1, hbz2⟩ := info_parts infoBo
  have hnn := h.nn
  have hmkI : ∀ u : World, (Instr.makeSlice 38 (.int .i64 (N : Int)) (.int .i64 (N : Int))).run Try.prog u = .ok (.slice (some ⟨u.heap.size, 0, none⟩) N N) (u.alloc (.cells (madeCells #[.int .i64 0] N) 3)) := fun u => by
    have h := run_make (P := Try.prog) u 38 3 ti _ Try.underlying38 hi hz0 .i64 .i64 (N : Int) (N : Int) (by omega) (by omega) (by rw [hz2]; omega) (by omega)
    rw [hz1] at h
    simpa [Value.cells] using h
  have hmkB : ∀ u : World, (Instr.makeSlice 75 (.int .i64 (N : Int)) (.int .i64 (N : Int))).run Try.prog u = .ok (.slice (some ⟨u.heap.size, 0, none⟩) N N) (u.alloc (.cells (madeCells #[.bool false] N) 4)) := fun u => by
    have h := run_make (P := Try.prog) u 75 4 tb _ Try.underlying75 hbi hbz0 .i64 .i64 (N : Int) (N : Int) (by omega) (by omega) (by rw [hbz2]; omega) (by omega)
    rw [hbz1] at h
    simpa [Value.cells] using h
  have HG0 := hid h
  have g0 : ∀ o1 o2 o3 : Obj, w.cell? ⟨g, 0, none⟩ = some (.int .i64 (N : Int)) ∧ (w.alloc o1).cell? ⟨g, 0, none⟩ = some (.int .i64 (N : Int)) ∧ ((w.alloc o1).alloc o2).cell? ⟨g, 0, none⟩ = some (.int .i64 (N : Int)) := fun o1 o2 o3 => by
    have c := (blk_cell h.hg 0).trans rfl
    have b1 := (Below.refl _ w).alloc (Nat.le_refl _) o1
    have b2 := b1.trans (((Below.refl _ (w.alloc o1)).alloc (Nat.le_refl _) o2).mono b1.size)
    exact ⟨c, (b1.cell (p := ⟨g, 0, none⟩) (blk_lt h.hg)).trans c, (b2.cell (p := ⟨g, 0, none⟩) (blk_lt h.hg)).trans c⟩
  have hgl : g < w.heap.size := blk_lt h.hg
  have c0 : w.cell? ⟨g, 0, none⟩ = some (.int .i64 (N : Int)) := (blk_cell h.hg 0).trans rfl
  clear h g0
  go_enter Try.func22, Try.ntmps22
  go_upto_region 1 with fail
  go_cut [5] from 7 to 25 (fun s5 wx => ∃ t sb lb ob : Nat, s5 = .pointer (some ⟨t, 0, none⟩) ∧ Hid (TM w.heap.size wx t g sb lb ob mask N (tvs ⟨0, fun _ => 0, fun _ => 0, [], []⟩ (.slice none 0 0) (.slice none 0 0) [])) ∧ Hid (Below w.heap.size w wx))
  case first =>
    go_region
    all_goals go_wp2_with fail
    all_goals go_meet
    all_goals
      refine ⟨_, _, _, _, rfl, hid (tm_made (new4 _ _ _ _ _) ?_ ?_ ?_ ?_ ?_), hid ?_⟩
      · first | exact new1 _ _ _ _ _ | exact new2 _ _ _ _ _ | exact new3 _ _ _ _ _
      · first | exact new3 _ _ _ _ _ | exact new2 _ _ _ _ _ | exact new1 _ _ _ _ _
      · first | exact new1 _ _ _ _ _ | exact new2 _ _ _ _ _ | exact new3 _ _ _ _ _
      · omega
      · exact ⟨by omega, by omega, by omega, by omega⟩
      · exact (((((Below.refl _ w).alloc (Nat.le_refl _) _).alloc (by simp) _).alloc (by simp; omega) _).alloc (by simp; omega) _).drew
  case rest =>
  obtain ⟨t, sb, lb, ob, rfl, HT, HB⟩ := hcut
  have hgc : wc.cell? ⟨g, 0, none⟩ = some (.int .i64 (N : Int)) := (HB.out.cell (p := ⟨g, 0, none⟩) hgl).trans c0
  have HI0 : Hid (Inv (Edge es mask) N ⟨0, fun _ => 0, fun _ => 0, [], []⟩ []) := hid (Inv.start _ N _ _ fun _ _ => rfl)
  clear hmkI hmkB hi hz0 hz1 hz2 hbi hbz0 hbz1 hbz2 c0
  go_wp2_with fail
  clear hgc
  go_loopg [30] N (fun gh s30 wr => ∃ (x : Nat) (s1 : TS) (vS1 vF1 : Value) (vals1 : List Value), x ≤ N ∧ gh = N - x ∧ s30 = .int .i64 x ∧ Hid (Inv (Edge es mask) N s1 []) ∧ Hid (∀ y, y < x → s1.seen y ≠ 0) ∧ Hid (x = 0 → vF1 = .slice none 0 0) ∧ Hid (TM w.heap.size wr t g sb lb ob mask N (tvs s1 vS1 vF1 vals1)) ∧ Hid (Below w.heap.size w wr))
  case atStart => exact ⟨0, _, _, _, _, Nat.zero_le _, by omega, rfl, HI0, hid fun y hy => absurd hy (by omega), hid fun _ => rfl, HT, HB⟩
  case round =>
  clear HI0 HT HB
  obtain ⟨x, s1, vS1, vF1, vals1, hx, rfl, rfl, HI, HS, HZ, HT, HB⟩ := hrel
  by_cases hlt : x < N
  · have hltI : (x : Int) < (N : Int) := by omega
    have t2 : wr.cell? ⟨t, 2, none⟩ = some (.slice (some ⟨sb, 0, none⟩) N N) := HT.out.c2
    have sx : wr.cell? ⟨sb, x, none⟩ = some (.int .i64 (s1.seen x : Int)) := HT.out.sn.cell hlt
    by_cases hz : s1.seen x = 0
    · rw [hz] at sx
      have HC := hid (visit_any HG0.out mask t sb lb ob N s1 [] x vS1 vF1 vals1 wr HI.out hlt hz (fun z hz => by simp at hz) (cz_le _ _) HT.out HB.out)
      go_wp2_with (go_at_call 35; refine HC.out.mono ?_; rintro e w8 ⟨rfl, s2, vS2, vF2, vals2, hP, hT8, hF8⟩)
      have HB8 := hid (HB.out.trans (hF8.1.below (B := w.heap.size) HB.out.size (fun k hk => (HT.out.tb_lt hk).1)))
      have HT8 := hid hT8
      have HI8 := hid hP.inv
      have HS8 : Hid (∀ y, y < x + 1 → s2.seen y ≠ 0) := hid fun y hy => by
        by_cases e : y = x
        · rw [e]; exact hP.sx
        · have h1 := HS.out y (by omega)
          rw [(hP.keep y h1).1]
          exact h1
      clear hP hT8 hF8
      go_roundg (N - (x + 1))
      case measure => omega
      case rel => exact ⟨x + 1, s2, vS2, vF2, vals2, by omega, rfl, by go_num, HI8, HS8, hid (fun h => absurd h (by omega)), HT8, HB8⟩
    · have hz' : ((s1.seen x : Int) == 0) = false := by simp [hz]
      have HS8 : Hid (∀ y, y < x + 1 → s1.seen y ≠ 0) := hid fun y hy => by
        by_cases e : y = x
        · rw [e]; exact hz
        · exact HS.out y (by omega)
      go_wp2_with fail
      go_roundg (N - (x + 1))
      case measure => omega
      case rel => exact ⟨x + 1, s1, vS1, vF1, vals1, by omega, rfl, by go_num, HI, HS8, hid (fun h => absurd h (by omega)), HT, HB⟩
  · have hxN : x = N := by omega
    have hG : Grp (Edge es mask) N s1.fnd := HI.out.grp fun y hy => HS.out y (by omega)
    have HGr := hid hG
    have HM : Hid (GsM wr w.heap.size vF1 vals1 s1.fnd) := hid (tm_gs HT.out)
    have hfl := HI.out.fnd_le
    have hln : vals1.length = s1.fnd.length := HT.out.ln
    have HSG : Hid (Calls Try.prog 36 #[vF1, .func (.func 37) #[] #[]] wr (SortGPost w.heap.size wr vF1 vals1 s1.fnd)) := hid (sortG_any HM.out.row hln HM.out.gr (fun q hq => (hG.scc q hq).1) HM.out.ap (by show vals1.length ≤ 100000; omega) (fun hv => by
      refine HZ.out ?_
      have hv : vals1 = [] := hv
      have h0 : s1.fnd = [] := List.eq_nil_of_length_eq_zero (by rw [← hln, hv]; rfl)
      refine Nat.eq_zero_of_not_pos fun hp => ?_
      obtain ⟨q, hq, _⟩ := hG.all 0 (by omega)
      rw [h0] at hq
      simp at hq))
    have t7 : wr.cell? ⟨t, 7, none⟩ = some vF1 := HT.out.c7
    obtain ⟨aF, nF, cF, hF⟩ : ∃ a n c, vF1 = .slice a n c := own_slice HT.out.fd
    clear hG hln hfl
    subst hF
    go_upto_region 9 with (go_at_call 36; refine HSG.out.mono ?_; rintro e w9 ⟨rfl, ps, hp, hs, ho, hg⟩)
    have hq := gs_sorted HM.out HGr.out hp hs ho hg
    have HQ := hid hq
    have ht9 : w9.heap[t]? = _ := (hg.block t HT.out.lt (fun e => (HT.out.aF t e.symm).1 rfl)).trans HT.out.ht
    have t7' : w9.cell? ⟨t, 7, none⟩ = some (.slice aF nF cF) := (blk_cell ht9 7).trans rfl
    have HB9 := hid (HB.out.grown hg HB.out.size (fun k e => (HT.out.fd.lt k e).1))
    clear hp hs ho hg hq ht9 t7
    go_wp2_with fail
    go_ret
    exact ⟨_, _, _, rfl, HQ.out.1, HQ.out.2.1, HQ.out.2.2, HB9.out⟩
end Go.Proofs.Ytbbfbkoanbdghaa
