/- The walk of GraphGroups. No statement is proved here. -/
import Derived.Test.YtbbfbkoanbdghaaCE
import Derived.Test.YtbbfbkoanbdghaaOC
set_option linter.unusedVariables false
set_option linter.unusedSimpArgs false
namespace Go.Proofs.Ytbbfbkoanbdghaa
open Go.RowKit

theorem ownV_in {w : World} {B : Nat} {v : Value} {xs : List Value} (h : OwnV w B v xs) (hn : xs ≠ []) : ∃ b cap, v = .slice (some ⟨b, 0, none⟩) xs.length cap ∧ b < w.heap.size ∧ xs.length ≤ cap ∧ ∀ (i : Nat) (u : Value), xs[i]? = some u → w.cell? ⟨b, i, none⟩ = some u := by
  rcases h.2 with ⟨rfl, h0⟩ | ⟨g, cap, cur, rfl, hB, hg, hle, hcm, _⟩
  · exact absurd (List.eq_nil_of_length_eq_zero h0) hn
  · refine ⟨g, cap, rfl, blk_lt hg, hle, fun i u hu => ?_⟩
    have := h.cells (g := g) rfl i u hu
    rw [Addr.add_lit, Nat.zero_add] at this
    exact this
theorem take_flat {gs : List (List Nat)} {i : Nat} {g : List Nat} (h : gs[i]? = some g) : (gs.take (i + 1)).flatten = (gs.take i).flatten ++ g := by
  rw [List.take_add_one, h]
  simp
/-- How a list of groups is read, now and later. -/
structure GRd (w : World) (b : Nat) (cap : Nat) (gs : List (List Nat)) (cf kf : Nat → Nat) : Prop where
  cap : gs.length ≤ cap
  rd : ∀ W, Below w.heap.size w W → ∀ (i : Nat) (g : List Nat), gs[i]? = some g → g ≠ [] → W.cell? ⟨b, i, none⟩ = some (.slice (some ⟨cf i, 0, none⟩) g.length (kf i)) ∧ g.length ≤ kf i ∧ ∀ j (hj : j < g.length), W.cell? ⟨cf i, j, none⟩ = some (.int .i64 (g[j] : Nat))
def capV : Value → Nat
  | .slice _ _ c => c
  | _ => 0
theorem grd_of {w : World} {B : Nat} {v : Value} {vals : List Value} {gs : List (List Nat)} (h : GsM w B v vals gs) (hn : gs ≠ []) : ∃ b cap cf kf, v = .slice (some ⟨b, 0, none⟩) gs.length cap ∧ GRd w b cap gs cf kf := by
  have hv : vals ≠ [] := fun e => hn (by have := h.ln; rw [e] at this; exact List.eq_nil_of_length_eq_zero this.symm)
  obtain ⟨b, cap, rfl, hbl, hle, hc⟩ := ownV_in h.row hv
  refine ⟨b, cap, fun i => ((vals[i]?).bind Value.ownBlock).getD 0, fun i => ((vals[i]?).map capV).getD 0, by rw [h.ln], by rw [← h.ln]; exact hle, fun W hW i g hg hne => ?_⟩
  have hil : i < vals.length := by rw [h.ln]; exact (List.getElem?_eq_some_iff.1 hg).1
  obtain ⟨u, hu⟩ : ∃ u, vals[i]? = some u := ⟨_, List.getElem?_eq_getElem hil⟩
  obtain ⟨c, k, rfl, hcl, _, hgk, _, hcs⟩ := ownN_in (h.gr i u g hu hg) hne
  simp only [hu]
  exact ⟨(hW.cell (p := ⟨b, i, none⟩) hbl).trans (hc i _ hu), hgk, fun j hj => (hW.cell (p := ⟨c, j, none⟩) hcl).trans (hcs j hj)⟩
theorem GRd.below {w w' : World} {b cap : Nat} {gs : List (List Nat)} {cf kf : Nat → Nat} (h : GRd w b cap gs cf kf) (hb : Below w.heap.size w w') : GRd w' b cap gs cf kf := ⟨h.cap, fun W hW => h.rd W (hb.trans (hW.mono hb.size))⟩
set_option maxHeartbeats 16000000 in
set_option maxRecDepth 100000 in
theorem ggroups_walk (n : Int) (a : Option Addr) (l : List E) (cap : Nat) (mask fewer : Int) (w : World) (hin : ESl w a l) :
    Calls Try.prog 7 #[.int .i64 n, .slice a l.length cap, .int .i64 mask, .int .i64 fewer] w fun e w' => e = .returned (.bool true) ∧ Below w.heap.size w w' := by
  obtain ⟨ti, hi, hz0, hz1, hz2⟩ := info_parts infoI
  have HIN0 := hid hin
  clear hin
  obtain ⟨len0, hl0⟩ : ∃ len, len = l.length := ⟨_, rfl⟩
  rw [← hl0]
  have HL0 := hid hl0
  clear hl0
  by_cases hq0 : n < 1
  · go_enter Try.func7, Try.ntmps7
    go_wp2_with fail
    refine (anchor_any _).mono ?_
    rintro e w1 ⟨rfl, hb1⟩
    go_wp2_with fail
    all_goals go_ret
    all_goals exact ⟨rfl, hb1⟩
  by_cases hq1 : 40 < n
  · go_enter Try.func7, Try.ntmps7
    go_wp2_with fail
    refine (anchor_any _).mono ?_
    rintro e w1 ⟨rfl, hb1⟩
    go_wp2_with fail
    all_goals go_ret
    all_goals exact ⟨rfl, hb1⟩
  by_cases hq2 : 400 < len0
  · have hq3 : (400 : Int) < (len0 : Int) := by omega
    go_enter Try.func7, Try.ntmps7
    go_wp2_with fail
    refine (anchor_any _).mono ?_
    rintro e w1 ⟨rfl, hb1⟩
    go_wp2_with fail
    all_goals go_ret
    all_goals exact ⟨rfl, hb1⟩
  obtain ⟨N, rfl⟩ := Int.eq_ofNat_of_zero_le (show 0 ≤ n by omega)
  have hN : N ≤ 40 := by omega
  have hN1 : 1 ≤ N := by omega
  have hb := fun (W : World) (h : ESl W a l) => build_any N (by omega) a l cap W h (by have := HL0.out; omega)
  rw [← HL0.out] at hb
  have HB9 := hid hb
  clear hb
  have hmk : ∀ u : World, (Instr.makeSlice 38 (.int .i64 (N : Int)) (.int .i64 (N : Int))).run Try.prog u = .ok (.slice (some ⟨u.heap.size, 0, none⟩) N N) (u.alloc (.cells (madeCells #[.int .i64 0] N) 3)) := fun u => by
    have h := run_make (P := Try.prog) u 38 3 ti _ Try.underlying38 hi hz0 .i64 .i64 (N : Int) (N : Int) (by omega) (by omega) (by rw [hz2]; omega) (by omega)
    rw [hz1] at h
    simpa [Value.cells] using h
  have HMK := hid hmk
  clear hmk hi hz0 hz1 hz2
  go_enter Try.func7, Try.ntmps7
  go_wp2_with fail
  refine (anchor_any _).mono ?_
  rintro e w1 ⟨rfl, hb1⟩
  have HB1 := hid hb1
  clear hb1
  go_wp2_with fail
  refine (HB9.out w1 (HIN0.out.below HB1.out)).mono ?_
  rintro e w2 ⟨g, mb, ob, bb, oc, bc, vs, rfl, hG, hB2⟩
  have HG2 := hid hG
  have HB2 := hid (HB1.out.trans (hB2.mono HB1.out.size))
  clear hG hB2 HB1 HB9 HIN0 HL0 hq0 hq1 hq2
  obtain ⟨es, hes⟩ : ∃ es, es = buildE N l := ⟨_, rfl⟩
  rw [← hes] at HG2
  clear hes
  go_wp2_with fail
  refine (comps_any HG2.out mask).mono ?_
  rintro e w3 ⟨v1, vals1, gs1, rfl, hM1, hG1, _, hB3⟩
  have HG3 := hid (HG2.out.below hB3)
  have HB3 := hid (HB2.out.trans (hB3.mono HB2.out.size))
  have hne1 : gs1 ≠ [] := fun e => by
    obtain ⟨q, hq, _⟩ := hG1.all 0 (by omega)
    rw [e] at hq
    simp at hq
  obtain ⟨b1, c1, cf1, kf1, rfl, hR1⟩ := grd_of hM1 hne1
  have HR1 := hid hR1
  have HP1 := hid hG1
  clear hM1 hG1 hB3 hne1 hR1 HG2 HB2
  go_wp2_with fail
  refine (comps_any HG3.out _).mono ?_
  rintro e w4 ⟨v2, vals2, gs2, rfl, hM2, hG2, _, hB4⟩
  have HG4 := hid (HG3.out.below hB4)
  have HB4 := hid (HB3.out.trans (hB4.mono HB3.out.size))
  have hne2 : gs2 ≠ [] := fun e => by
    obtain ⟨q, hq, _⟩ := hG2.all 0 (by omega)
    rw [e] at hq
    simp at hq
  obtain ⟨b2, c2, cf2, kf2, rfl, hR2⟩ := grd_of hM2 hne2
  have HR2 := hid hR2
  have HP2 := hid hG2
  have HR1 := hid (HR1.out.below hB4)
  clear hM2 hG2 hB4 hne2 hR2 HG3 HB3
  obtain ⟨L1, hL1⟩ : ∃ L1, L1 = gs1.length := ⟨_, rfl⟩
  obtain ⟨L2, hL2⟩ : ∃ L2, L2 = gs2.length := ⟨_, rfl⟩
  rw [← hL1, ← hL2]
  have HL1 := hid hL1
  have HL2 := hid hL2
  have hcap1 : L1 ≤ c1 := by rw [hL1]; exact HR1.out.cap
  have hcap2 : L2 ≤ c2 := by rw [hL2]; exact HR2.out.cap
  have hLN1 : L1 ≤ N := by
    have h1 := flatten_le gs1 fun q hq => (HP1.out.scc q hq).1
    have h2 := HP1.out.len
    omega
  have hLN2 : L2 ≤ N := by
    have h1 := flatten_le gs2 fun q hq => (HP2.out.scc q hq).1
    have h2 := HP2.out.len
    omega
  clear hL1 hL2
  have hmk := HMK.out
  go_upto_region 9 with fail
  go_cut [12, 13] from 51 to 54 (fun s12 s13 wx => ∃ d1 d2 : Nat, s12 = .slice (some ⟨d1, 0, none⟩) N N ∧ s13 = .slice (some ⟨d2, 0, none⟩) N N ∧ Hid (IntRow wx d1 N (fun _ => 0)) ∧ Hid (IntRow wx d2 N (fun _ => 0)) ∧ Hid (d1 ≠ d2) ∧ Hid (w4.heap.size ≤ d1) ∧ Hid (w4.heap.size ≤ d2) ∧ Hid (Below w4.heap.size w4 wx))
  case first =>
    have hcell : ∀ i, i < N → (madeCells #[Value.int .i64 0] N)[i]? = some (.int .i64 0) := fun i hi => by rw [← Array.getElem?_toList, toList_madeCells_one, List.getElem?_replicate, if_pos hi]
    have hsz : (madeCells #[Value.int .i64 0] N).size = N := by rw [size_madeCells]
    have hr1 : IntRow (((w4.alloc (.cells (madeCells #[.int .i64 0] N) 3)).alloc (.cells (madeCells #[.int .i64 0] N) 3)).drew) w4.heap.size N (fun _ => 0) := ⟨_, (Below.heap_alloc _ _ _ (by simp)).trans (heap_alloc_new w4 _), hsz, hcell⟩
    have hr2 : IntRow (((w4.alloc (.cells (madeCells #[.int .i64 0] N) 3)).alloc (.cells (madeCells #[.int .i64 0] N) 3)).drew) (w4.heap.size + 1) N (fun _ => 0) := ⟨_, by
      have := heap_alloc_new (w4.alloc (.cells (madeCells #[.int .i64 0] N) 3)) (.cells (madeCells #[.int .i64 0] N) 3)
      rw [show (w4.alloc (.cells (madeCells #[Value.int .i64 0] N) 3)).heap.size = w4.heap.size + 1 by simp] at this
      exact this, hsz, hcell⟩
    have hb0 := (((Below.refl _ w4).alloc (Nat.le_refl _) (.cells (madeCells #[.int .i64 0] N) 3)).alloc (by simp) (.cells (madeCells #[.int .i64 0] N) 3)).drew
    have hr1' := hid hr1
    have hr2' := hid hr2
    have hb0' := hid hb0
    clear hr1 hr2 hb0 hcell hsz
    go_region
    all_goals go_wp2_with fail
    all_goals go_meet
    all_goals first
      | exact ⟨_, _, rfl, rfl, hr1', hr2', hid (by omega), hid (by omega), hid (by omega), hb0'⟩
      | exact ⟨_, _, rfl, rfl, hr2', hr1', hid (by omega), hid (by omega), hid (by omega), hb0'⟩
  case rest =>
  obtain ⟨d1, d2, rfl, rfl, HD1, HD2, HNE, HS1, HS2, HB5⟩ := hcut
  obtain ⟨w5, rfl⟩ : ∃ w5, w5 = wc := ⟨_, rfl⟩
  have HDL := hid (And.intro HD1.out.lt HD2.out.lt)
  clear hmk HMK
  have HQ0 : Hid (GNum gs1 (gs1.take 0).flatten (fun _ => 0)) := hid (by simpa using GNum.start gs1)
  go_wp2_with fail
  go_loopg [14, 57] L1 (fun gh s14 s57 wr => ∃ (i : Nat) (cn : Nat) (D : Nat → Int), i ≤ L1 ∧ gh = L1 - i ∧ s14 = .int .i64 (cn : Int) ∧ Hid (cn = (gs1.take i).flatten.length) ∧ s57 = .int .i64 i ∧ Hid (GNum gs1 (gs1.take i).flatten D) ∧ Hid (IntRow wr d1 N D) ∧ Hid (IntRow wr d2 N (fun _ => 0)) ∧ Hid (Below w4.heap.size w4 wr))
  case atStart => exact ⟨0, 0, _, Nat.zero_le _, by omega, rfl, hid (by simp), rfl, HQ0, HD1, HD2, HB5⟩
  case round =>
  clear HQ0 HD1 HD2 HB5
  obtain ⟨i, cn, D, hi, rfl, rfl, HCN, rfl, HQ, HX, HY, HB⟩ := hrel
  by_cases hlt : i < L1
  · have hil : i < gs1.length := by have := HL1.out; omega
    have hltI : (i : Int) < (L1 : Int) := by omega
    obtain ⟨q, hq⟩ : ∃ q, q = gs1[i] := ⟨_, rfl⟩
    have hgi : gs1[i]? = some q := by rw [hq]; exact List.getElem?_eq_getElem hil
    have hscc := HP1.out.scc q (List.mem_of_getElem? hgi)
    have hrd := HR1.out.rd wr HB.out i q hgi hscc.1
    have hc4 := hrd.1
    have hkq := hrd.2.1
    clear hrd
    have HCS := hid (fun (W : World) (hW : Below w4.heap.size w4 W) => (HR1.out.rd W hW i q hgi hscc.1).2.2)
    obtain ⟨cq, hcq⟩ : ∃ cq, cq = cf1 i := ⟨_, rfl⟩
    obtain ⟨kq, hkq2⟩ : ∃ kq, kq = kf1 i := ⟨_, rfl⟩
    rw [← hcq] at hc4 HCS
    rw [← hkq2] at hc4 hkq
    have hqN : q.length ≤ N := nodup_le N q (hscc.2.1.imp fun h => Nat.ne_of_lt h) hscc.2.2.1
    have hfl : (gs1.take i).flatten.length + q.length ≤ N := by
      have h1 := HP1.out.len
      have h2 := congrArg (fun l => l.flatten.length) (List.take_append_drop (i + 1) gs1)
      simp only [List.flatten_append, List.length_append, take_flat hgi] at h2
      omega
    obtain ⟨Lq, hLq⟩ : ∃ Lq, Lq = q.length := ⟨_, rfl⟩
    have HLQ := hid hLq
    rw [← hLq] at hc4 hkq hqN hfl
    have hnd : ((gs1.take i).flatten ++ q).Nodup := by
      have h1 := HP1.out.dis
      rw [← List.take_append_drop (i + 1) gs1, List.flatten_append, List.nodup_append, take_flat hgi] at h1
      exact h1.1
    have HND := hid hnd
    have HSC := hid hscc.2.2.1
    have HGI := hid hgi
    have HQ1 : Hid (GNum gs1 ((gs1.take i).flatten ++ q.take 0) D) := hid (by simpa using HQ.out)
    clear hq hgi hscc hLq hnd HQ hcq hkq2
    go_wp2_with fail
    clear hc4
    go_loopg [14, 64] Lq (fun gh s14 s64 wr => ∃ (p : Nat) (cn : Nat) (D : Nat → Int), p ≤ Lq ∧ gh = Lq - p ∧ s14 = .int .i64 (cn : Int) ∧ Hid (cn = (gs1.take i).flatten.length + p) ∧ s64 = .int .i64 p ∧ Hid (GNum gs1 ((gs1.take i).flatten ++ q.take p) D) ∧ Hid (IntRow wr d1 N D) ∧ Hid (IntRow wr d2 N (fun _ => 0)) ∧ Hid (Below w4.heap.size w4 wr))
    case atStart => exact ⟨0, cn, D, Nat.zero_le _, by omega, rfl, hid (by have := HCN.out; omega), rfl, HQ1, HX, HY, HB⟩
    case round =>
    clear HQ1 HX HY HB
    obtain ⟨p, cn2, D2, hp, rfl, rfl, HCN2, rfl, HQ2, HX, HY, HB⟩ := hrel
    by_cases hpl : p < Lq
    · have hplI : (p : Int) < (Lq : Int) := by omega
      have hpq : p < q.length := by have := HLQ.out; omega
      obtain ⟨y, hy⟩ : ∃ y, y = q[p] := ⟨_, rfl⟩
      have hyq : y ∈ q := by rw [hy]; exact List.getElem_mem _
      have hyN : y < N := HSC.out y hyq
      have hyI : (y : Int) < (N : Int) := by omega
      have hc := HCS.out wr HB.out p hpq
      rw [← hy] at hc
      have htk : q.take (p + 1) = q.take p ++ [y] := by rw [List.take_add_one, List.getElem?_eq_getElem hpq, ← hy]; rfl
      have HNI : y ∉ (gs1.take i).flatten ++ q.take p := fun hm => by
        have h1 := HND.out
        have h2 : q = q.take p ++ y :: q.drop (p + 1) := by
          have := (List.take_append_drop (p + 1) q).symm
          rw [htk, List.append_assoc] at this
          exact this
        rw [h2, ← List.append_assoc, List.nodup_append] at h1
        exact h1.2.2 y hm y List.mem_cons_self rfl
      have cy := HX.out.cell hyN
      have hz0 : D2 y = 0 := HQ2.out.2 y HNI
      rw [hz0] at cy
      have fy := HX.out.free y
      have hwr : IntKind.i64.wrap ((i : Int) + 1) = (i : Int) + 1 := by rw [IntKind.wrap_i64]; omega
      have hwr2 : IntKind.i64.wrap ((cn2 : Int) + 1) = (cn2 : Int) + 1 := by
        have h1 := HCN2.out
        have h2 := hfl
        rw [IntKind.wrap_i64]
        omega
      have HX2 := hid (HX.out.set hyN ((i : Int) + 1))
      have HY2 := hid (HY.out.kept (Below.heap_setCell wr ⟨d1, y, none⟩ (.int .i64 ((i : Int) + 1)) d2 (fun e => HNE.out e.symm)))
      have HB2 := hid (HB.out.setCell (p := ⟨d1, y, none⟩) HS1.out (.int .i64 ((i : Int) + 1)))
      have HQ3 : Hid (GNum gs1 ((gs1.take i).flatten ++ q.take (p + 1)) (upd D2 y ((i : Int) + 1))) := hid (by rw [htk, ← List.append_assoc]; exact HQ2.out.step HGI.out hyq)
      clear hy hyq htk HNI HX HY HB HQ2 hfl hpq
      go_wp2_with fail
      go_roundg (Lq - (p + 1))
      case measure => omega
      case rel => exact ⟨p + 1, cn2 + 1, _, by omega, rfl, by go_num, hid (by have := HCN2.out; omega), by go_num, HQ3, HX2, HY2, HB2⟩
    · have hpe : p = q.length := by have := HLQ.out; omega
      have HQ3 : Hid (GNum gs1 (gs1.take (i + 1)).flatten D2) := hid (by
        have h1 := HQ2.out
        rw [hpe, List.take_length, ← take_flat HGI.out] at h1
        exact h1)
      go_wp2_with fail
      go_roundg (L1 - (i + 1))
      case measure => omega
      case rel => exact ⟨i + 1, cn2, D2, by omega, rfl, rfl, hid (by have := HCN2.out; rw [take_flat HGI.out, List.length_append, ← hpe]; exact this), by go_num, HQ3, HX, HY, HB⟩
  have hie : i = gs1.length := by have := HL1.out; omega

  have HN1 : Hid (GNum gs1 gs1.flatten D) := hid (by
    have := HQ.out
    rw [hie, List.take_length] at this
    exact this)
  have hcn : cn = N := by
    have h1 := HCN.out
    rw [hie, List.take_length] at h1
    rw [h1]
    exact HP1.out.len
  rw [hcn]
  obtain ⟨F1, hF1⟩ : ∃ F1, F1 = D := ⟨_, rfl⟩
  rw [← hF1] at HX HN1
  have HF1 := HX
  have HD2 := HY
  have HB5 := HB
  clear HX HY HB HQ HCN hcn hF1 hie
  have HQ0 : Hid (GNum gs2 (gs2.take 0).flatten (fun _ => 0)) := hid (by simpa using GNum.start gs2)
  go_wp2_with fail
  go_loopg [93] L2 (fun gh s93 wr => ∃ (i : Nat) (D : Nat → Int), i ≤ L2 ∧ gh = L2 - i ∧ s93 = .int .i64 i ∧ Hid (GNum gs2 (gs2.take i).flatten D) ∧ Hid (IntRow wr d2 N D) ∧ Hid (IntRow wr d1 N F1) ∧ Hid (Below w4.heap.size w4 wr))
  case atStart => exact ⟨0, _, Nat.zero_le _, by omega, rfl, HQ0, HD2, HF1, HB5⟩
  case round =>
  clear HQ0 HD2 HF1 HB5
  obtain ⟨i, D, hi, rfl, rfl, HQ, HX, HY, HB⟩ := hrel
  by_cases hlt : i < L2
  · have hil : i < gs2.length := by have := HL2.out; omega
    have hltI : (i : Int) < (L2 : Int) := by omega
    obtain ⟨q, hq⟩ : ∃ q, q = gs2[i] := ⟨_, rfl⟩
    have hgi : gs2[i]? = some q := by rw [hq]; exact List.getElem?_eq_getElem hil
    have hscc := HP2.out.scc q (List.mem_of_getElem? hgi)
    have hrd := HR2.out.rd wr HB.out i q hgi hscc.1
    have hc4 := hrd.1
    have hkq := hrd.2.1
    clear hrd
    have HCS := hid (fun (W : World) (hW : Below w4.heap.size w4 W) => (HR2.out.rd W hW i q hgi hscc.1).2.2)
    obtain ⟨cq, hcq⟩ : ∃ cq, cq = cf2 i := ⟨_, rfl⟩
    obtain ⟨kq, hkq2⟩ : ∃ kq, kq = kf2 i := ⟨_, rfl⟩
    rw [← hcq] at hc4 HCS
    rw [← hkq2] at hc4 hkq
    have hqN : q.length ≤ N := nodup_le N q (hscc.2.1.imp fun h => Nat.ne_of_lt h) hscc.2.2.1
    have hfl : (gs2.take i).flatten.length + q.length ≤ N := by
      have h1 := HP2.out.len
      have h2 := congrArg (fun l => l.flatten.length) (List.take_append_drop (i + 1) gs2)
      simp only [List.flatten_append, List.length_append, take_flat hgi] at h2
      omega
    obtain ⟨Lq, hLq⟩ : ∃ Lq, Lq = q.length := ⟨_, rfl⟩
    have HLQ := hid hLq
    rw [← hLq] at hc4 hkq hqN hfl
    have hnd : ((gs2.take i).flatten ++ q).Nodup := by
      have h1 := HP2.out.dis
      rw [← List.take_append_drop (i + 1) gs2, List.flatten_append, List.nodup_append, take_flat hgi] at h1
      exact h1.1
    have HND := hid hnd
    have HSC := hid hscc.2.2.1
    have HGI := hid hgi
    have HQ1 : Hid (GNum gs2 ((gs2.take i).flatten ++ q.take 0) D) := hid (by simpa using HQ.out)
    clear hq hgi hscc hLq hnd HQ hcq hkq2
    go_wp2_with fail
    clear hc4
    go_loopg [100] Lq (fun gh s100 wr => ∃ (p : Nat) (D : Nat → Int), p ≤ Lq ∧ gh = Lq - p ∧ s100 = .int .i64 p ∧ Hid (GNum gs2 ((gs2.take i).flatten ++ q.take p) D) ∧ Hid (IntRow wr d2 N D) ∧ Hid (IntRow wr d1 N F1) ∧ Hid (Below w4.heap.size w4 wr))
    case atStart => exact ⟨0, D, Nat.zero_le _, by omega, rfl, HQ1, HX, HY, HB⟩
    case round =>
    clear HQ1 HX HY HB
    obtain ⟨p, D2, hp, rfl, rfl, HQ2, HX, HY, HB⟩ := hrel
    by_cases hpl : p < Lq
    · have hplI : (p : Int) < (Lq : Int) := by omega
      have hpq : p < q.length := by have := HLQ.out; omega
      obtain ⟨y, hy⟩ : ∃ y, y = q[p] := ⟨_, rfl⟩
      have hyq : y ∈ q := by rw [hy]; exact List.getElem_mem _
      have hyN : y < N := HSC.out y hyq
      have hyI : (y : Int) < (N : Int) := by omega
      have hc := HCS.out wr HB.out p hpq
      rw [← hy] at hc
      have htk : q.take (p + 1) = q.take p ++ [y] := by rw [List.take_add_one, List.getElem?_eq_getElem hpq, ← hy]; rfl
      have HNI : y ∉ (gs2.take i).flatten ++ q.take p := fun hm => by
        have h1 := HND.out
        have h2 : q = q.take p ++ y :: q.drop (p + 1) := by
          have := (List.take_append_drop (p + 1) q).symm
          rw [htk, List.append_assoc] at this
          exact this
        rw [h2, ← List.append_assoc, List.nodup_append] at h1
        exact h1.2.2 y hm y List.mem_cons_self rfl
      have cy := HX.out.cell hyN
      have fy := HX.out.free y
      have hwr : IntKind.i64.wrap ((i : Int) + 1) = (i : Int) + 1 := by rw [IntKind.wrap_i64]; omega
      have HX2 := hid (HX.out.set hyN ((i : Int) + 1))
      have HY2 := hid (HY.out.kept (Below.heap_setCell wr ⟨d2, y, none⟩ (.int .i64 ((i : Int) + 1)) d1 HNE.out))
      have HB2 := hid (HB.out.setCell (p := ⟨d2, y, none⟩) HS2.out (.int .i64 ((i : Int) + 1)))
      have HQ3 : Hid (GNum gs2 ((gs2.take i).flatten ++ q.take (p + 1)) (upd D2 y ((i : Int) + 1))) := hid (by rw [htk, ← List.append_assoc]; exact HQ2.out.step HGI.out hyq)
      clear hy hyq htk HNI HX HY HB HQ2 hfl hpq
      go_wp2_with fail
      go_roundg (Lq - (p + 1))
      case measure => omega
      case rel => exact ⟨p + 1, _, by omega, rfl, by go_num, HQ3, HX2, HY2, HB2⟩
    · have hpe : p = q.length := by have := HLQ.out; omega
      have HQ3 : Hid (GNum gs2 (gs2.take (i + 1)).flatten D2) := hid (by
        have h1 := HQ2.out
        rw [hpe, List.take_length, ← take_flat HGI.out] at h1
        exact h1)
      go_wp2_with fail
      go_roundg (L2 - (i + 1))
      case measure => omega
      case rel => exact ⟨i + 1, D2, by omega, rfl, by go_num, HQ3, HX, HY, HB⟩
  have hie : i = gs2.length := by have := HL2.out; omega

  have HN2 : Hid (GNum gs2 gs2.flatten D) := hid (by
    have := HQ.out
    rw [hie, List.take_length] at this
    exact this)
  obtain ⟨F2, hF2⟩ : ∃ F2, F2 = D := ⟨_, rfl⟩
  rw [← hF2] at HX HN2
  obtain ⟨w7, rfl⟩ : ∃ w7, w7 = wr := ⟨_, rfl⟩
  have HG7 := hid (HG4.out.below HB.out)
  have HB7 := hid (HB4.out.trans (HB.out.mono HB4.out.size))
  have HLL : Hid ((L1 : Int) ≤ (L2 : Int)) := hid (by
    have h1 := HP1.out.more HP2.out fun p q h => edge_and HG4.out.ok h
    have h2 := HL1.out
    have h3 := HL2.out
    omega)
  have HSM := hid (fun (p q : Nat) (hp : p < N) (hq : q < N) => HN1.out.same HP1.out hp hq)
  have HSM2 := hid (fun (p q : Nat) (hp : p < N) (hq : q < N) => HN2.out.same HP2.out hp hq)
  have HSS := hid (fun (p q : Nat) (hp : p < N) (hq : q < N) (he : F2 p = F2 q) => (HSM.out p q hp hq).2 ⟨rt_mono (fun _ _ h => edge_and HG4.out.ok h) ((HSM2.out p q hp hq).1 he).1, rt_mono (fun _ _ h => edge_and HG4.out.ok h) ((HSM2.out p q hp hq).1 he).2⟩)
  clear HQ hF2 hie HSM2 HN1 HN2 HB HR1 HR2 HG4
  go_wp2_with fail
  go_loopg [23] N (fun gh s23 wr => ∃ x : Nat, x ≤ N ∧ gh = N - x ∧ s23 = .int .i64 x ∧ Hid (Below w7.heap.size w7 wr))
  case atStart => exact ⟨0, Nat.zero_le _, by omega, rfl, hid (Below.refl _ _)⟩
  case round =>
  obtain ⟨x, hx, rfl, rfl, HB⟩ := hrel
  by_cases hxN : x < N
  · have hxI : (x : Int) < (N : Int) := by omega
    go_wp2_with fail
    go_loopg [24] N (fun gh s24 wr => ∃ y : Nat, y ≤ N ∧ gh = N - y ∧ s24 = .int .i64 y ∧ Hid (Below w7.heap.size w7 wr))
    case atStart => exact ⟨0, Nat.zero_le _, by omega, rfl, HB⟩
    case round =>
    clear HB
    obtain ⟨y, hy, rfl, rfl, HB⟩ := hrel
    by_cases hyN : y < N
    · have hyI : (y : Int) < (N : Int) := by omega
      obtain ⟨wb, rfl⟩ : ∃ wb, wb = wr := ⟨_, rfl⟩
      have HGb := hid (HG7.out.below HB.out)
      have hd1 : ∀ W, Below wb.heap.size wb W → ∀ z, z < N → W.cell? ⟨d1, z, none⟩ = some (.int .i64 (F1 z)) := fun W hW z hz => (hW.cell (p := ⟨d1, z, none⟩) (Nat.lt_of_lt_of_le HY.out.lt HB.out.size)).trans ((HB.out.cell (p := ⟨d1, z, none⟩) HY.out.lt).trans (HY.out.cell hz))
      have hd2 : ∀ W, Below wb.heap.size wb W → ∀ z, z < N → W.cell? ⟨d2, z, none⟩ = some (.int .i64 (F2 z)) := fun W hW z hz => (hW.cell (p := ⟨d2, z, none⟩) (Nat.lt_of_lt_of_le HX.out.lt HB.out.size)).trans ((HB.out.cell (p := ⟨d2, z, none⟩) HX.out.lt).trans (HX.out.cell hz))
      have HC1 := hid hd1
      have HC2 := hid hd2
      clear hd1 hd2
      have nx : nodeB N (x : Int) = true := by simp [nodeB]; omega
      have ny : nodeB N (y : Int) = true := by simp [nodeB]; omega
      -- the two answers of Reach
      have hreach : ∀ p q : Nat, ∃ r : Bool, (r = true ↔ WayI es N mask (p : Int) (q : Int)) ∧ ∀ W, Below wb.heap.size wb W → Calls Try.prog 14 #[.pointer (some ⟨g, 0, none⟩), .int .i64 (p : Int), .int .i64 (q : Int), .int .i64 mask] W fun e w' => e = .returned (.bool r) ∧ Below W.heap.size W w' := fun p q => by
        classical
        refine ⟨decide (WayI es N mask (p : Int) (q : Int)), by simp, fun W hW => (reach_any (HGb.out.below hW) (p : Int) (q : Int) mask).mono ?_⟩
        rintro e w' ⟨r, rfl, hr, hb, _⟩
        refine ⟨?_, hb⟩
        congr 2
        by_cases hw : WayI es N mask (p : Int) (q : Int)
        · rw [hr.2 hw, decide_eq_true hw]
        · rw [decide_eq_false hw]
          cases r with
          | true => exact absurd (hr.1 rfl) hw
          | false => rfl
      obtain ⟨r1, hr1, hc1⟩ := hreach x y
      obtain ⟨r2, hr2, hc2⟩ := hreach y x
      have hdist : ∀ p : Nat, p < N → ∃ D, IsDist es N mask p D := fun p hp => dist_exists mask HGb.out.ok p
      have hboth := wayI_both (mask := mask) HGb.out.ok hxN hyN (hdist x hxN) (hdist y hyN)
      have hsm := HSM.out x y hxN hyN
      have hss := HSS.out x y hxN hyN
      have HC5 := hid hc1
      have HC6 := hid hc2
      have hval : (F1 x = F1 y) ↔ (x = y ∨ (r1 = true ∧ r2 = true)) := by rw [hsm, ← hboth, hr1, hr2]
      have c1x := HC1.out wb (Below.refl _ _) x hxN
      have c1y := HC1.out wb (Below.refl _ _) y hyN
      have HV := hid hval
      have HS2' := hid hss
      obtain ⟨z1, hz1⟩ : ∃ z1, z1 = F1 x := ⟨_, rfl⟩
      obtain ⟨z2, hz2⟩ : ∃ z2, z2 = F1 y := ⟨_, rfl⟩
      obtain ⟨p1, hp1⟩ : ∃ p1, p1 = F2 x := ⟨_, rfl⟩
      obtain ⟨p2, hp2⟩ : ∃ p2, p2 = F2 y := ⟨_, rfl⟩
      rw [← hz1] at c1x HV HS2'
      rw [← hz2] at c1y HV HS2'
      rw [← hp1] at HS2'
      rw [← hp2] at HS2'
      have HC1x : Hid (∀ W, Below wb.heap.size wb W → W.cell? ⟨d1, x, none⟩ = some (.int .i64 z1) ∧ W.cell? ⟨d1, y, none⟩ = some (.int .i64 z2) ∧ W.cell? ⟨d2, x, none⟩ = some (.int .i64 p1) ∧ W.cell? ⟨d2, y, none⟩ = some (.int .i64 p2)) := hid fun W hW => by
        rw [hz1, hz2, hp1, hp2]
        exact ⟨HC1.out W hW x hxN, HC1.out W hW y hyN, HC2.out W hW x hxN, HC2.out W hW y hyN⟩
      have HBW := hid (Below.refl wb.heap.size wb).drew
      clear hreach hr1 hr2 hc1 hc2 hdist hboth hsm hss hval HC1 HC2 nx ny hz1 hz2 hp1 hp2
      go_upto_region 40 with fail
      go_cut [154] from 128 to 154 (fun s154 wx => s154 = .bool false ∧ Hid (Below wb.heap.size wb wx))
      case first =>
        rename_i qj1 qk1 qa1 qa2 qk2 qa3 qa4 qk3 qa5 qk4 qa6 qk5 qa7 qj2 qk6 qa8 qa9
        clear qa7 qa6 qa5 qa4 qa3 qa1 qj1
        by_cases hxy : x = y
        · have hxy' : y = x := hxy.symm
          subst hxy'
          have hzz : z1 = z2 := HV.out.2 (.inl rfl)
          subst hzz
          go_region
          all_goals go_wp2_with fail
          all_goals go_meet
          all_goals exact ⟨by simp, HBW⟩
        · have hxy1 : ((x : Int) == (y : Int)) = false := by simp; omega
          have hxy2 : ¬ (x : Int) = (y : Int) := by omega
          cases r1 with
          | false =>
            have hzz : ¬ z1 = z2 := fun e => by rcases HV.out.1 e with h | h; exact hxy h; exact absurd h.1 (by simp)
            have hzz1 : (z1 == z2) = false := by simp [hzz]
            refine wp_region_held_drew (S := fun W : World => W.cell? ⟨d1, x, none⟩ = some (.int .i64 z1) ∧ W.cell? ⟨d1, y, none⟩ = some (.int .i64 z2)) (by kernel_rfl) ⟨c1x, c1y⟩ (fun hHeld => ?_)
            refine wpAnyH_take (i := 0) (v := .slice (some ⟨d1, 0, none⟩) N N) rfl (by kernel_rfl) (by kernel_rfl) (by kernel_rfl) (fun _ _ _ h => h) (Or.inl ⟨by rfl, fun w hSw => by go_simp⟩) (by assumption) ?_
            try simp only [Act.put, List.getElem_toArray, List.getElem_cons_zero, List.getElem_cons_succ, List.setIfInBounds_toArray, List.set_cons_zero, List.set_cons_succ]
            refine wpAnyH_take (i := 1) (v := .int .i64 (x : Int)) rfl (by kernel_rfl) (by kernel_rfl) (by kernel_rfl) (fun _ _ _ h => h) (Or.inl ⟨by rfl, fun w hSw => by go_simp⟩) (by assumption) ?_
            try simp only [Act.put, List.getElem_toArray, List.getElem_cons_zero, List.getElem_cons_succ, List.setIfInBounds_toArray, List.set_cons_zero, List.set_cons_succ]
            refine wpAnyH_take (i := 2) (v := .pointer (some ⟨d1, x, none⟩)) rfl (by kernel_rfl) (by kernel_rfl) (by kernel_rfl) (fun _ _ _ h => h) (Or.inl ⟨by rfl, fun w hSw => by go_simp⟩) (by assumption) ?_
            try simp only [Act.put, List.getElem_toArray, List.getElem_cons_zero, List.getElem_cons_succ, List.setIfInBounds_toArray, List.set_cons_zero, List.set_cons_succ]
            refine wpAnyH_take (i := 3) (v := .int .i64 z1) rfl (by kernel_rfl) (by kernel_rfl) (by kernel_rfl) (fun _ _ _ h => h) (Or.inl ⟨by rfl, fun w hSw => by obtain ⟨h1, h2⟩ := hSw; go_simp⟩) (by assumption) ?_
            try simp only [Act.put, List.getElem_toArray, List.getElem_cons_zero, List.getElem_cons_succ, List.setIfInBounds_toArray, List.set_cons_zero, List.set_cons_succ]
            refine wpAnyH_take (i := 4) (v := .slice (some ⟨d1, 0, none⟩) N N) rfl (by kernel_rfl) (by kernel_rfl) (by kernel_rfl) (fun _ _ _ h => h) (Or.inl ⟨by rfl, fun w hSw => by go_simp⟩) (by assumption) ?_
            try simp only [Act.put, List.getElem_toArray, List.getElem_cons_zero, List.getElem_cons_succ, List.setIfInBounds_toArray, List.set_cons_zero, List.set_cons_succ]
            refine wpAnyH_take (i := 5) (v := .int .i64 (y : Int)) rfl (by kernel_rfl) (by kernel_rfl) (by kernel_rfl) (fun _ _ _ h => h) (Or.inl ⟨by rfl, fun w hSw => by go_simp⟩) (by assumption) ?_
            try simp only [Act.put, List.getElem_toArray, List.getElem_cons_zero, List.getElem_cons_succ, List.setIfInBounds_toArray, List.set_cons_zero, List.set_cons_succ]
            refine wpAnyH_take (i := 6) (v := .pointer (some ⟨d1, y, none⟩)) rfl (by kernel_rfl) (by kernel_rfl) (by kernel_rfl) (fun _ _ _ h => h) (Or.inl ⟨by rfl, fun w hSw => by go_simp⟩) (by assumption) ?_
            try simp only [Act.put, List.getElem_toArray, List.getElem_cons_zero, List.getElem_cons_succ, List.setIfInBounds_toArray, List.set_cons_zero, List.set_cons_succ]
            refine wpAnyH_take (i := 7) (v := .int .i64 z2) rfl (by kernel_rfl) (by kernel_rfl) (by kernel_rfl) (fun _ _ _ h => h) (Or.inl ⟨by rfl, fun w hSw => by obtain ⟨h1, h2⟩ := hSw; go_simp⟩) (by assumption) ?_
            try simp only [Act.put, List.getElem_toArray, List.getElem_cons_zero, List.getElem_cons_succ, List.setIfInBounds_toArray, List.set_cons_zero, List.set_cons_succ]
            refine wpAnyH_take (i := 8) (v := .bool false) rfl (by kernel_rfl) (by kernel_rfl) (by kernel_rfl) (fun _ _ _ h => h) (Or.inl ⟨by rfl, fun w hSw => by go_simp⟩) (by assumption) ?_
            try simp only [Act.put, List.getElem_toArray, List.getElem_cons_zero, List.getElem_cons_succ, List.setIfInBounds_toArray, List.set_cons_zero, List.set_cons_succ]
            refine wpAnyH_take (i := 9) (v := .int .i64 (x : Int)) rfl (by kernel_rfl) (by kernel_rfl) (by kernel_rfl) (fun _ _ _ h => h) (Or.inl ⟨by rfl, fun w hSw => by go_simp⟩) (by assumption) ?_
            try simp only [Act.put, List.getElem_toArray, List.getElem_cons_zero, List.getElem_cons_succ, List.setIfInBounds_toArray, List.set_cons_zero, List.set_cons_succ]
            refine wpAnyH_take (i := 10) (v := .int .i64 (y : Int)) rfl (by kernel_rfl) (by kernel_rfl) (by kernel_rfl) (fun _ _ _ h => h) (Or.inl ⟨by rfl, fun w hSw => by go_simp⟩) (by assumption) ?_
            try simp only [Act.put, List.getElem_toArray, List.getElem_cons_zero, List.getElem_cons_succ, List.setIfInBounds_toArray, List.set_cons_zero, List.set_cons_succ]
            refine wpAnyH_take (i := 11) (v := .bool false) rfl (by kernel_rfl) (by kernel_rfl) (by kernel_rfl) (fun _ _ _ h => h) (Or.inl ⟨by rfl, fun w hSw => by go_simp⟩) (by assumption) ?_
            try simp only [Act.put, List.getElem_toArray, List.getElem_cons_zero, List.getElem_cons_succ, List.setIfInBounds_toArray, List.set_cons_zero, List.set_cons_succ]
            refine wpAnyH_take (i := 12) (v := .bool false) rfl (by kernel_rfl) (by kernel_rfl) (by kernel_rfl) (fun _ _ _ h => h) (Or.inl ⟨by rfl, fun w hSw => by go_simp⟩) (by assumption) ?_
            try simp only [Act.put, List.getElem_toArray, List.getElem_cons_zero, List.getElem_cons_succ, List.setIfInBounds_toArray, List.set_cons_zero, List.set_cons_succ]
            refine wpAnyH_take (i := 13) (v := .pointer (some ⟨g, 0, none⟩)) rfl (by kernel_rfl) (by kernel_rfl) (by kernel_rfl) (fun _ _ _ h => h) (Or.inl ⟨by rfl, fun w hSw => by go_simp⟩) (by assumption) ?_
            try simp only [Act.put, List.getElem_toArray, List.getElem_cons_zero, List.getElem_cons_succ, List.setIfInBounds_toArray, List.set_cons_zero, List.set_cons_succ]
            refine wpAnyH_take (i := 14) (v := .int .i64 (x : Int)) rfl (by kernel_rfl) (by kernel_rfl) (by kernel_rfl) (fun _ _ _ h => h) (Or.inl ⟨by rfl, fun w hSw => by go_simp⟩) (by assumption) ?_
            try simp only [Act.put, List.getElem_toArray, List.getElem_cons_zero, List.getElem_cons_succ, List.setIfInBounds_toArray, List.set_cons_zero, List.set_cons_succ]
            refine wpAnyH_take (i := 15) (v := .int .i64 (y : Int)) rfl (by kernel_rfl) (by kernel_rfl) (by kernel_rfl) (fun _ _ _ h => h) (Or.inl ⟨by rfl, fun w hSw => by go_simp⟩) (by assumption) ?_
            try simp only [Act.put, List.getElem_toArray, List.getElem_cons_zero, List.getElem_cons_succ, List.setIfInBounds_toArray, List.set_cons_zero, List.set_cons_succ]
            refine wpAnyH_take (i := 16) (v := .int .i64 mask) rfl (by kernel_rfl) (by kernel_rfl) (by kernel_rfl) (fun _ _ _ h => h) (Or.inl ⟨by rfl, fun w hSw => by go_simp⟩) (by assumption) ?_
            try simp only [Act.put, List.getElem_toArray, List.getElem_cons_zero, List.getElem_cons_succ, List.setIfInBounds_toArray, List.set_cons_zero, List.set_cons_succ]
            refine wpAnyH_ready (rs := [17]) (by kernel_rfl) (by simp) ?_
            refine AllReadyH.cons rfl (fun K hK => ?_) AllReadyH.nil
            go_simp
            (go_at_call 14; refine (HC5.out _ HBW.out).mono ?_; clear HC5; rintro e wq ⟨rfl, hbq⟩)
            have hbq' := HBW.out.trans hbq
            refine hK.out _ _ ⟨(HC1x.out wq hbq').1, (HC1x.out wq hbq').2.1⟩ (fun hHeld2 => ?_)
            clear hK K hHeld
            try simp only [Act.put, List.getElem_toArray, List.getElem_cons_zero, List.getElem_cons_succ, List.setIfInBounds_toArray, List.set_cons_zero, List.set_cons_succ]
            refine wpAnyH_take (i := 18) (v := .bool false) rfl (by kernel_rfl) (by kernel_rfl) (by kernel_rfl) (fun _ _ _ h => h) (Or.inl ⟨by rfl, fun w hSw => by go_simp⟩) (by assumption) ?_
            try simp only [Act.put, List.getElem_toArray, List.getElem_cons_zero, List.getElem_cons_succ, List.setIfInBounds_toArray, List.set_cons_zero, List.set_cons_succ]
            refine wpAnyH_take (i := 19) (v := undef) rfl (by kernel_rfl) (by kernel_rfl) (by kernel_rfl) (fun _ _ _ h => h) (Or.inr ⟨by rfl, rfl⟩) (by assumption) ?_
            try simp only [Act.put, List.getElem_toArray, List.getElem_cons_zero, List.getElem_cons_succ, List.setIfInBounds_toArray, List.set_cons_zero, List.set_cons_succ]
            refine wpAnyH_take (i := 20) (v := undef) rfl (by kernel_rfl) (by kernel_rfl) (by kernel_rfl) (fun _ _ _ h => h) (Or.inr ⟨by rfl, rfl⟩) (by assumption) ?_
            try simp only [Act.put, List.getElem_toArray, List.getElem_cons_zero, List.getElem_cons_succ, List.setIfInBounds_toArray, List.set_cons_zero, List.set_cons_succ]
            refine wpAnyH_take (i := 21) (v := undef) rfl (by kernel_rfl) (by kernel_rfl) (by kernel_rfl) (fun _ _ _ h => h) (Or.inr ⟨by rfl, rfl⟩) (by assumption) ?_
            try simp only [Act.put, List.getElem_toArray, List.getElem_cons_zero, List.getElem_cons_succ, List.setIfInBounds_toArray, List.set_cons_zero, List.set_cons_succ]
            refine wpAnyH_take (i := 22) (v := undef) rfl (by kernel_rfl) (by kernel_rfl) (by kernel_rfl) (fun _ _ _ h => h) (Or.inr ⟨by rfl, rfl⟩) (by assumption) ?_
            try simp only [Act.put, List.getElem_toArray, List.getElem_cons_zero, List.getElem_cons_succ, List.setIfInBounds_toArray, List.set_cons_zero, List.set_cons_succ]
            refine wpAnyH_take (i := 23) (v := undef) rfl (by kernel_rfl) (by kernel_rfl) (by kernel_rfl) (fun _ _ _ h => h) (Or.inr ⟨by rfl, rfl⟩) (by assumption) ?_
            try simp only [Act.put, List.getElem_toArray, List.getElem_cons_zero, List.getElem_cons_succ, List.setIfInBounds_toArray, List.set_cons_zero, List.set_cons_succ]
            refine wpAnyH_take (i := 24) (v := .bool false) rfl (by kernel_rfl) (by kernel_rfl) (by kernel_rfl) (fun _ _ _ h => h) (Or.inl ⟨by rfl, fun w hSw => by go_simp⟩) (by assumption) ?_
            try simp only [Act.put, List.getElem_toArray, List.getElem_cons_zero, List.getElem_cons_succ, List.setIfInBounds_toArray, List.set_cons_zero, List.set_cons_succ]
            refine wpAnyH_take (i := 25) (v := .bool false) rfl (by kernel_rfl) (by kernel_rfl) (by kernel_rfl) (fun _ _ _ h => h) (Or.inl ⟨by rfl, fun w hSw => by go_simp⟩) (by assumption) ?_
            try simp only [Act.put, List.getElem_toArray, List.getElem_cons_zero, List.getElem_cons_succ, List.setIfInBounds_toArray, List.set_cons_zero, List.set_cons_succ]
            refine wpAnyH_take (i := 26) (v := .bool false) rfl (by kernel_rfl) (by kernel_rfl) (by kernel_rfl) (fun _ _ _ h => h) (Or.inl ⟨by rfl, fun w hSw => by go_simp⟩) (by assumption) ?_
            try simp only [Act.put, List.getElem_toArray, List.getElem_cons_zero, List.getElem_cons_succ, List.setIfInBounds_toArray, List.set_cons_zero, List.set_cons_succ]
            refine wpAnyH_done (by kernel_rfl) ?_ _
            have HBQ := hid hbq'
            clear hbq hbq' hHeld2
            go_wp2_with fail
            go_meet
            exact ⟨by simp, HBQ⟩
          | true =>
            obtain ⟨e1, he1⟩ : ∃ e1, e1 = (z1 == z2) := ⟨_, rfl⟩
            have he2 : e1 = r2 := by
              rw [he1]
              cases r2 with
              | true => simpa using HV.out.2 (.inr ⟨rfl, rfl⟩)
              | false =>
                have hzz : ¬ z1 = z2 := fun e => by rcases HV.out.1 e with h | h; exact hxy h; exact absurd h.2 (by simp)
                simp [hzz]
            have he3 : (z1 == z2) = r2 := he1.symm.trans he2
            clear he1 he2
            go_region_held3 (fun W : World => W.cell? ⟨d1, x, none⟩ = some (.int .i64 z1) ∧ W.cell? ⟨d1, y, none⟩ = some (.int .i64 z2)) (go_keep) (first | (go_at_call 14; refine (HC5.out _ HBW.out).mono ?_; clear HC5; rintro e wq ⟨rfl, hbq⟩; have hbq' := HBW.out.trans hbq; have q1 := (HC1x.out wq hbq').1; have q2 := (HC1x.out wq hbq').2.1) | (go_at_call 14; refine (HC6.out _ hbq').mono ?_; rintro e wq2 ⟨rfl, hbq2⟩; have hbq3 := hbq'.trans (hbq2.mono hbq'.size); have q3 := (HC1x.out wq2 hbq3).1; have q4 := (HC1x.out wq2 hbq3).2.1))
            all_goals have HBQ := hid hbq3
            all_goals clear hbq hbq' q1 q2 q3 q4 hbq2 hbq3
            all_goals go_wp2_with fail
            all_goals go_meet
            all_goals exact ⟨by simp, HBQ⟩
      case rest =>
      obtain ⟨rfl, HBX⟩ := hcut
      obtain ⟨wx1, rfl⟩ : ∃ wx, wx = wc := ⟨_, rfl⟩
      have k1 := (HC1x.out wx1 HBX.out).1
      have k2 := (HC1x.out wx1 HBX.out).2.1
      have k3 := (HC1x.out wx1 HBX.out).2.2.1
      have k4 := (HC1x.out wx1 HBX.out).2.2.2
      have HBXd := hid (HBX.out.drew)
      clear HC5 HC6 c1x c1y
      go_upto_region 42 with fail
      go_cut [174] from 155 to 174 (fun s174 wx => s174 = .bool false ∧ Hid (Below wb.heap.size wb wx))
      case first =>
        by_cases hpp : p1 = p2
        · have hzz : z1 = z2 := HS2'.out hpp
          subst hpp
          subst hzz
          go_region_held3 (fun W : World => W.cell? ⟨d1, x, none⟩ = some (.int .i64 z1) ∧ W.cell? ⟨d1, y, none⟩ = some (.int .i64 z1) ∧ W.cell? ⟨d2, x, none⟩ = some (.int .i64 p1) ∧ W.cell? ⟨d2, y, none⟩ = some (.int .i64 p1)) (go_keep) (first | fail)
          all_goals go_wp2_with fail
          all_goals go_meet
          all_goals exact ⟨by simp, HBXd⟩
        · have hpp1 : (p1 == p2) = false := by simp [hpp]
          go_region
          all_goals go_wp2_with fail
          all_goals go_meet
          all_goals exact ⟨by simp, HBXd⟩
      case rest =>
      obtain ⟨rfl, HBY⟩ := hcut
      have HBZ := hid (HB.out.trans (HBY.out.mono HB.out.size))
      go_wp2_with fail
      go_roundg (N - (y + 1))
      case measure => omega
      case rel => exact ⟨y + 1, by omega, rfl, by go_num, HBZ⟩
    · have hyE : y = N := by omega
      go_wp2_with fail
      go_roundg (N - (x + 1))
      case measure => omega
      case rel => exact ⟨x + 1, by omega, rfl, by go_num, HB⟩
  · have hLL := HLL.out
    have HBE := hid (HB7.out.trans (HB.out.mono HB7.out.size))
    go_wp2_with fail
    go_ret
    exact ⟨by simp, HBE.out⟩
end Go.Proofs.Ytbbfbkoanbdghaa
