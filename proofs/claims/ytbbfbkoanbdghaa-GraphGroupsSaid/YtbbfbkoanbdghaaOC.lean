/- The walk of GraphOrder. No statement is proved here. -/
import Derived.Test.YtbbfbkoanbdghaaOB
import Derived.Test.YtbbfbkoanbdghaaGU
import Derived.Test.YtbbfbkoanbdghaaGL
import Derived.StillTailTactics
import Derived.StillTactics
set_option linter.unusedVariables false
set_option linter.unusedSimpArgs false
namespace Go.Proofs.Ytbbfbkoanbdghaa
open Go.RowKit

/-- A fact that the elaborator does not lay open. -/
structure Held (p : Prop) : Prop where
  out : p
section
variable {P : Program} {ops : Array Oper} {w : World} {Q : Act → Prop} {a : Act} {o : Oper} {rest : List Oper}
theorem wpStill_held {l : List Oper} (h : Held (wpStill P ops w Q l a)) : wpStill P ops w Q l a := h.out
theorem held_nil (h : Q a) : Held (wpStill P ops w Q [] a) := ⟨h⟩
theorem held_off (h : Region.wanted o (yielded ops a.tmps) = false) (hs : ∀ K : Act → Prop, (∀ a, Held (wpStill P ops w Q rest a) → K a) → K (a.put o.dst undef)) : Held (wpStill P ops w Q (o :: rest) a) := by
  have := (hs (fun a => Held (wpStill P ops w Q rest a)) (fun _ h => h)).out
  refine ⟨?_⟩
  simp only [wpStill, h]
  exact this
theorem held_on (h : Region.wanted o (yielded ops a.tmps) = true) (hs : ∀ K : Act → Prop, (∀ a, Held (wpStill P ops w Q rest a) → K a) → o.still P a w K) : Held (wpStill P ops w Q (o :: rest) a) := by
  have := hs (wpStill P ops w Q rest) (fun _ h => h.out)
  refine ⟨?_⟩
  simp only [wpStill, h]
  exact this
end
/-- Where the nodes of an order stand. -/
def PL (out : List Nat) (i y : Nat) : Int := if y ∈ out.take i then (out.idxOf y : Int) + 1 else 0
theorem nodup_idx {out : List Nat} (hd : out.Nodup) {i : Nat} (hi : i < out.length) : out.idxOf out[i] = i := by
  have h1 : out.idxOf out[i] < out.length := List.idxOf_lt_length_iff.2 (List.getElem_mem hi)
  have h2 : out[out.idxOf out[i]] = out[i] := List.getElem_idxOf h1
  have hp := List.pairwise_iff_getElem.1 (List.nodup_iff_pairwise_ne.1 hd)
  rcases Nat.lt_trichotomy (out.idxOf out[i]) i with h | h | h
  · exact absurd h2 (hp _ _ h1 hi h)
  · exact h
  · exact absurd h2.symm (hp _ _ hi h1 h)
theorem PL_new {out : List Nat} (hd : out.Nodup) {i : Nat} (hi : i < out.length) : PL out i out[i] = 0 := by
  unfold PL
  rw [if_neg]
  intro hm
  obtain ⟨j, hj, he⟩ := List.mem_take_iff_getElem.1 hm
  have h1 := nodup_idx hd (show j < out.length by omega)
  rw [he, nodup_idx hd hi] at h1
  omega
theorem PL_step {out : List Nat} (hd : out.Nodup) {i : Nat} (hi : i < out.length) (y : Nat) : upd (PL out i) out[i] ((i : Int) + 1) y = PL out (i + 1) y := by
  unfold PL
  rw [List.take_succ_eq_append_getElem hi]
  by_cases h : y = out[i]
  · subst h
    rw [upd_same, if_pos (List.mem_append_right _ (List.mem_singleton.2 rfl)), nodup_idx hd hi]
  · rw [upd_other h]
    by_cases h2 : y ∈ out.take i
    · rw [if_pos h2, if_pos (List.mem_append_left _ h2)]
    · rw [if_neg h2, if_neg (fun hm => by
        rcases List.mem_append.1 hm with hm | hm
        · exact h2 hm
        · exact h (by simpa using hm))]
theorem PL_end {out : List Nat} (hd : out.Nodup) {i : Nat} (hi : i < out.length) : PL out out.length out[i] = (i : Int) + 1 := by
  unfold PL
  rw [List.take_length, if_pos (List.getElem_mem hi), nodup_idx hd hi]
theorem PL_edge {es : List E} {N : Nat} {mask : Int} {out : List Nat} (hk : Kn es N mask out) (hl : out.length = N) {e : E} (he : e ∈ es) {x y : Nat} (hx : e.frm = (x : Int)) (hy : e.to = (y : Int)) (hyN : y < N) (hm : inM e.lab mask = true) : PL out N x < PL out N y := by
  have hmem : ∃ j, ∃ hj : j < out.length, out[j] = y := by
    refine Classical.byContradiction fun hn => ?_
    have := nodup_le N (y :: out) (List.nodup_cons.2 ⟨fun hm => by obtain ⟨j, hj, he⟩ := List.getElem_of_mem hm; exact hn ⟨j, hj, he⟩, hk.nodup⟩) (fun z hz => by
      rcases List.mem_cons.1 hz with rfl | hz
      · exact hyN
      · exact hk.lt z hz)
    simp at this
    omega
  obtain ⟨j, hj, rfl⟩ := hmem
  obtain ⟨i, hi, hi2, hf⟩ := hk.edge he hm hj hy
  have hxi : x = out[i] := by omega
  subst hxi
  rw [← hl, PL_end hk.nodup hi2, PL_end hk.nodup hj]
  omega
theorem ownN_in {w : World} {B : Nat} {v : Value} {out : List Nat} (h : OwnN w B v out) (hn : out ≠ []) : ∃ b cap, v = .slice (some ⟨b, 0, none⟩) out.length cap ∧ b < w.heap.size ∧ B ≤ b ∧ out.length ≤ cap ∧ cap ≤ maxLen ∧ ∀ i (hi : i < out.length), w.cell? ⟨b, i, none⟩ = some (.int .i64 (out[i] : Nat)) := by
  rcases h.2 with ⟨rfl, h0⟩ | ⟨g, cap, cur, rfl, hB, hg, hle, hcm, _⟩
  · exact absurd (List.eq_nil_of_length_eq_zero h0) hn
  · refine ⟨g, cap, rfl, blk_lt hg, hB, hle, hcm, fun i hi => ?_⟩
    have := h.cells (g := g) rfl i (.int .i64 (out[i] : Nat)) (by simp [cellsN, List.getElem?_eq_getElem hi])
    rw [Addr.add_lit, Nat.zero_add] at this
    exact this
def Cyc (es : List E) (N : Nat) (mask : Int) (a : Nat) (c : Bool) : Prop := (c = true → ∃ b, b < N ∧ Way es N mask b b) ∧ (c = false → ∀ b, b < a → (∃ D, IsDist es N mask b D) ∧ ¬ Way es N mask b b)
set_option maxHeartbeats 2000000 in
set_option maxRecDepth 100000 in
theorem gorder_walk (n : Int) (a : Option Addr) (l : List E) (cap : Nat) (mask : Int) (w : World) (hin : ESl w a l) :
    Calls Try.prog 6 #[.int .i64 n, .slice a l.length cap, .int .i64 mask] w fun e w' => e = .returned (.bool true) ∧ Below w.heap.size w w' := by
  obtain ⟨ti, hi, hz0, hz1, hz2⟩ := info_parts infoI
  have HIN0 := hid hin
  clear hin
  obtain ⟨len0, hl0⟩ : ∃ len, len = l.length := ⟨_, rfl⟩
  rw [← hl0]
  have HL0 := hid hl0
  clear hl0
  by_cases hq0 : n < 1
  · go_enter Try.func6, Try.ntmps6
    go_wp2_with fail
    refine (anchor_any _).mono ?_
    rintro e w1 ⟨rfl, hb1⟩
    go_wp2_with fail
    all_goals go_ret
    all_goals exact ⟨rfl, hb1⟩
  by_cases hq1 : 60 < n
  · go_enter Try.func6, Try.ntmps6
    go_wp2_with fail
    refine (anchor_any _).mono ?_
    rintro e w1 ⟨rfl, hb1⟩
    go_wp2_with fail
    all_goals go_ret
    all_goals exact ⟨rfl, hb1⟩
  by_cases hq2 : 600 < len0
  · have hq3 : (600 : Int) < (len0 : Int) := by omega
    go_enter Try.func6, Try.ntmps6
    go_wp2_with fail
    refine (anchor_any _).mono ?_
    rintro e w1 ⟨rfl, hb1⟩
    go_wp2_with fail
    all_goals go_ret
    all_goals exact ⟨rfl, hb1⟩
  obtain ⟨N, rfl⟩ := Int.eq_ofNat_of_zero_le (show 0 ≤ n by omega)
  have hN : N ≤ 60 := by omega
  have hN1 : 1 ≤ N := by omega
  have hb := fun (W : World) (h : ESl W a l) => build_any N (by omega) a l cap W h (by have := HL0.out; omega)
  rw [← HL0.out] at hb
  have HB9 := hid hb
  clear hb
  have hmk : ∀ u : World, (Instr.makeSlice 38 (.int .i64 (N : Int)) (.int .i64 (N : Int))).run Try.prog u = .ok (.slice (some ⟨u.heap.size, 0, none⟩) N N) (u.alloc (.cells (madeCells #[.int .i64 0] N) 3)) := fun u => by
    have h := run_make (P := Try.prog) u 38 3 ti _ Try.underlying38 hi hz0 .i64 .i64 (N : Int) (N : Int) (by omega) (by omega) (by rw [hz2]; omega) (by omega)
    rw [hz1] at h
    simpa [Value.cells] using h
  have HMK := hid hmk
  clear hmk hi hz0 hz1 hz2
  go_enter Try.func6, Try.ntmps6
  go_wp2_with fail
  refine (anchor_any _).mono ?_
  rintro e w1 ⟨rfl, hb1⟩
  have HB1 := hid hb1
  clear hb1
  go_wp2_with fail
  refine (HB9.out w1 (HIN0.out.below HB1.out)).mono ?_
  rintro e w2 ⟨g, mb, ob, bb, oc, bc, vs, rfl, hG, hB2⟩
  have HG2 := hid hG
  have HB2 := hid (HB1.out.trans (hB2.mono HB1.out.size))
  have hes0 : (buildE N l).length ≤ 65536 := hG.len
  clear hG hB2 HB1 HB9 HIN0 HL0 hq0 hq1 hq2
  obtain ⟨es, hes⟩ : ∃ es, es = buildE N l := ⟨_, rfl⟩
  rw [← hes] at HG2 hes0
  clear hes
  go_wp2_with fail
  refine (order_any HG2.out mask).mono ?_
  rintro e w3 ⟨hB3, hpost⟩
  have HG3 := hid (HG2.out.below hB3)
  have HB3 := hid (HB2.out.trans (hB3.mono HB2.out.size))
  obtain ⟨v, ok, rfl, hyes, hno⟩ : ∃ v ok, e = .returned (.tuple #[v, .bool ok]) ∧ (ok = true → ∃ out, OwnN w3 w2.heap.size v out ∧ Kn es N mask out ∧ out.length = N) ∧
      (ok = false → v = .slice none 0 0 ∧ ∃ out, Kn es N mask out ∧ out.length < N ∧ ∀ y, y < N → ¬ Free es mask out y) := by
    rcases hpost with ⟨v, out, rfl, h⟩ | ⟨out, rfl, h⟩
    · exact ⟨_, _, rfl, fun _ => ⟨out, h⟩, fun h => by cases h⟩
    · exact ⟨_, _, rfl, (fun h => by cases h), fun _ => ⟨rfl, out, h⟩⟩
  have HY := hid hyes
  have HNO := hid hno
  clear hB3 hpost hyes hno HG2 HB2
  go_wp2_with fail
  go_loopg [10, 11] N (fun gh s10 s11 wr => ∃ (b : Nat) (c : Bool), b ≤ N ∧ gh = N - b ∧ s10 = .bool c ∧ s11 = .int .i64 b ∧ Hid (Cyc es N mask b c) ∧ Hid (Below w3.heap.size w3 wr))
  case atStart => exact ⟨0, false, Nat.zero_le _, by omega, rfl, rfl, hid ⟨(fun h => by cases h), fun _ b hb => absurd hb (by omega)⟩, hid (Below.refl _ _)⟩
  case round =>
    obtain ⟨b, c, hb, rfl, rfl, rfl, HC, HB⟩ := hrel
    by_cases hlt : b < N
    · have hltI : (b : Int) < (N : Int) := by omega
      cases c with
      | true =>
        have HC2 : Hid (Cyc es N mask (b + 1) true) := hid ⟨HC.out.1, fun h => by cases h⟩
        go_wp2_with fail
        go_roundg (N - (b + 1))
        case measure => omega
        case rel => exact ⟨b + 1, true, by omega, rfl, rfl, by go_num, HC2, HB⟩
      | false =>
        have hr := reach_any (HG3.out.below HB.out) (b : Int) (b : Int) mask
        have hnb : nodeB N (b : Int) = true := by simp [nodeB, hlt]
        have HR := hid hr
        have HNB := hid hnb
        clear hr hnb
        go_wp2_with (go_at_call 14; refine HR.out.mono ?_; rintro e w5 ⟨r, rfl, hrr, hB5, hDD⟩; have HRR := hid hrr; have HDD := hid hDD; have HB5 := hid hB5; clear hrr hDD hB5)
        have HC2 : Hid (Cyc es N mask (b + 1) r) := hid ⟨fun h => ⟨b, hlt, by simpa using (HRR.out.1 h).2.2⟩, fun h b' hb' => by
          by_cases e : b' = b
          · subst e
            refine ⟨by simpa using HDD.out HNB.out HNB.out, fun hw => ?_⟩
            have := HRR.out.2 ⟨HNB.out, HNB.out, by simpa using hw⟩
            rw [h] at this
            cases this
          · exact HC.out.2 rfl b' (by omega)⟩
        have HB6 := hid (HB.out.trans (HB5.out.mono HB.out.size))
        go_roundg (N - (b + 1))
        case measure => omega
        case rel => exact ⟨b + 1, r, by omega, rfl, rfl, by go_num, HC2, HB6⟩
    · have hbN : b = N := by omega
      subst hbN
      obtain ⟨wc, rfl⟩ : ∃ wc, wc = wr := ⟨_, rfl⟩
      have HG4 := hid (HG3.out.below HB.out)
      have HB4 := hid (HB3.out.trans (HB.out.mono HB3.out.size))
      have hc : c = !ok := by
        cases ok with
        | true =>
          obtain ⟨out, _, hk, hl⟩ := HY.out rfl
          cases c with
          | true =>
            obtain ⟨x, hx, hw⟩ := HC.out.1 rfl
            exact absurd hw (full_noway HG3.out.ok hk hl x hx)
          | false => rfl
        | false =>
          obtain ⟨_, out, hk, hl, hs⟩ := HNO.out rfl
          cases c with
          | true => rfl
          | false =>
            obtain ⟨x, hx, hw⟩ := stuck_way (fun t ht => (HC.out.2 rfl t ht).1) HG3.out.ok hk hl hs
            exact absurd hw ((HC.out.2 rfl x hx).2)
      subst hc
      cases ok with
      | false =>
        obtain ⟨rfl, _⟩ := HNO.out rfl
        go_wp2_with fail
        go_ret
        exact ⟨rfl, HB4.out⟩
      | true =>
        obtain ⟨out, ho, hk, hl⟩ := HY.out rfl
        have hne : out ≠ [] := fun h => by rw [h] at hl; simp at hl; omega
        obtain ⟨vb, vc, rfl, hvl, hvB, hvc, hvm, hcs⟩ := ownN_in ho hne
        rw [hl] at hvc ⊢
        have hvl4 : vb < wc.heap.size := Nat.lt_of_lt_of_le hvl HB.out.size
        have HCS := hid (fun (W : World) (hW : Below wc.heap.size wc W) i (hi : i < out.length) => (hW.cell (p := ⟨vb, i, none⟩) hvl4).trans ((HB.out.cell (p := ⟨vb, i, none⟩) hvl).trans (hcs i hi)))
        have HK := hid hk
        have HL := hid hl
        have hal := (Below.refl _ wc).alloc (Nat.le_refl _) (.cells (madeCells #[.int .i64 0] b) 3)
        have HR1 : Hid (IntRow (wc.alloc (.cells (madeCells #[.int .i64 0] b) 3)) wc.heap.size b (PL out 0)) := hid ⟨_, heap_alloc_new wc _, by rw [size_madeCells], fun i hi => by rw [← Array.getElem?_toList, toList_madeCells_one, List.getElem?_replicate, if_pos hi]; simp [PL]⟩
        have HA1 := hid hal
        have hmk := HMK.out wc
        clear hk hl hcs ho HC HB HY HNO hal hne hvm
        go_upto_region 19 with fail
        clear hmk
        obtain ⟨d, hd⟩ : ∃ d, d = wc.heap.size := ⟨_, rfl⟩
        obtain ⟨w5, hw5⟩ : ∃ w5, wc.alloc (.cells (madeCells #[.int .i64 0] b) 3) = w5 := ⟨_, rfl⟩
        rw [hw5] at HR1 HA1 ⊢
        rw [← hd] at HR1 ⊢
        have HD := hid hd
        clear hd hw5
        have hvcI : ¬ vc = 0 := by omega
        go_wp2_with fail
        go_loopg [66] b (fun gh s66 wr => ∃ i : Nat, i ≤ b ∧ gh = b - i ∧ s66 = .int .i64 i ∧ Hid (IntRow wr d b (PL out i)) ∧ Hid (Below wc.heap.size wc wr))
        case atStart => exact ⟨0, Nat.zero_le _, by omega, rfl, HR1, HA1⟩
        case round =>
          clear HR1 HA1
          obtain ⟨i, hi, rfl, rfl, HR, HA⟩ := hrel
          by_cases hib : i < b
          · have hil : i < out.length := by rw [HL.out]; exact hib
            have hx1 := HK.out.lt _ (List.getElem_mem hil)
            have hpz := PL_new HK.out.nodup hil
            have HST := hid (PL_step HK.out.nodup hil)
            have hcv := HCS.out wr HA.out i hil
            have hibI : (i : Int) < (b : Int) := by omega
            have hwr : IntKind.i64.wrap ((i : Int) + 1) = (i : Int) + 1 := by rw [IntKind.wrap_i64]; omega
            generalize out[i] = x at *
            have hxI : (x : Int) < (b : Int) := by omega
            have hcd := HR.out.cell hx1
            rw [hpz] at hcd
            have hfd := HR.out.free x
            have HR2 := hid ((HR.out.set hx1 ((i : Int) + 1)).ext (D' := PL out (i + 1)) fun y _ => HST.out y)
            have HA2 := hid (HA.out.setCell (p := ⟨d, x, none⟩) (by show wc.heap.size ≤ d; rw [HD.out]; exact Nat.le_refl _) (.int .i64 ((i : Int) + 1)))
            clear hpz HR HA HST
            go_wp2_with fail
            go_roundg (b - (i + 1))
            case measure => omega
            case rel => exact ⟨i + 1, by omega, rfl, by go_num, HR2, HA2⟩
          · have hie : i = b := by omega
            subst hie
            have hed := edges_any (HG4.out.below HA.out)
            have HED := hid hed
            have hdq := HR.out.lt
            clear hed
            go_wp2_with fail
            refine HED.out.mono ?_
            rintro e w6 ⟨v3, ss, rfl, hp, hso, ho, hn, hB6⟩
            obtain ⟨a3, cap3, rfl, hein, _, _⟩ := own_ein ho
            have HP := hid hp
            have HE := hid hein
            have HR6 := hid (HR.out.kept (hB6.block d hdq))
            have HB6 := hid (HB4.out.trans ((HA.out.trans (hB6.mono HA.out.size)).mono HB4.out.size))
            have hss : ss.length ≤ 65536 := by rw [hp.length_eq]; exact hes0
            clear hp hso ho hn hB6 hein HED HR HA
            obtain ⟨len3, hl3⟩ : ∃ len, len = ss.length := ⟨_, rfl⟩
            rw [← hl3] at hss ⊢
            have HL3 := hid hl3
            clear hl3
            go_wp2_with fail
            go_loopg [94] len3 (fun gh s94 wr => ∃ p : Nat, p ≤ len3 ∧ gh = len3 - p ∧ s94 = .int .i64 p ∧ Hid (Below w6.heap.size w6 wr))
            case atStart => exact ⟨0, Nat.zero_le _, by omega, rfl, hid (Below.refl _ _)⟩
            case round =>
              obtain ⟨p, hp, rfl, rfl, HQ⟩ := hrel
              by_cases hpl : p < len3
              · have hpl' : p < ss.length := by have := HL3.out; omega
                have hne : ss ≠ [] := by
                  intro h
                  rw [h] at hpl'
                  simp at hpl'
                obtain ⟨be, rfl, hbl, hce⟩ := (HE.out.below HQ.out) hne
                have hx := hce p hpl'
                have hmem : ss[p] ∈ es := HP.out.mem_iff.1 (List.getElem_mem _)
                have hok := HG3.out.ok _ hmem
                have hedge := hid (fun (x y : Nat) (h1 : (ss[p]).frm = (x : Int)) (h2 : (ss[p]).to = (y : Int)) (h3 : y < i) (h4 : inM (ss[p]).lab mask = true) => PL_edge HK.out HL.out hmem h1 h2 h3 h4)
                clear hce hne
                generalize ss[p] = e at *
                obtain ⟨ef, et, el⟩ := e
                obtain ⟨k1, k2, k3, k4, k5, k6⟩ := hok
                simp only at k1 k2 k3 k4 k5 k6
                obtain ⟨x, rfl⟩ := Int.eq_ofNat_of_zero_le k1
                obtain ⟨y, rfl⟩ := Int.eq_ofNat_of_zero_le k3
                have hxN : x < i := by omega
                have hyN : y < i := by omega
                have x0 : wr.cell? ⟨be, p * 3, none⟩ = some (.int .i64 (x : Int)) := hx 0 (by omega)
                have x1 : wr.cell? ⟨be, p * 3 + 1, none⟩ = some (.int .i64 (y : Int)) := hx 1 (by omega)
                have x2 : wr.cell? ⟨be, p * 3 + 2, none⟩ = some (.int .i64 el) := hx 2 (by omega)
                have hpI : (p : Int) < (len3 : Int) := by omega
                have hp63 : (p : Int) + 1 ≤ 9223372036854775807 := by omega
                have hal := (Below.refl _ wr).alloc (Nat.le_refl _) (.cells #[.int .i64 (x : Int), .int .i64 (y : Int), .int .i64 el] 29)
                have X4 : Hid ((wr.alloc (.cells #[.int .i64 (x : Int), .int .i64 (y : Int), .int .i64 el] 29)).heap[wr.heap.size]? = some (.cells #[.int .i64 (x : Int), .int .i64 (y : Int), .int .i64 el] 29 (0, 0))) := hid (heap_alloc_new wr _)
                have HQ4 := hid (HQ.out.trans (hal.mono HQ.out.size))
                clear hx hal HQ hmem
                go_upto_region 29 with fail
                clear x0 x1 x2 hp63
                obtain ⟨w4, hw4⟩ : ∃ w4, wr.alloc (.cells #[.int .i64 (x : Int), .int .i64 (y : Int), .int .i64 el] 29) = w4 := ⟨_, rfl⟩
                obtain ⟨bx, hbx2⟩ : ∃ bx, bx = wr.heap.size := ⟨_, rfl⟩
                rw [hw4] at X4 HQ4 ⊢
                rw [← hbx2] at X4 ⊢
                clear hw4 hbx2
                have x0 : w4.cell? ⟨bx, 0, none⟩ = some (.int .i64 (x : Int)) := (blk_cell X4.out 0).trans rfl
                have x1 : w4.cell? ⟨bx, 1, none⟩ = some (.int .i64 (y : Int)) := (blk_cell X4.out 1).trans rfl
                have x2 : w4.cell? ⟨bx, 2, none⟩ = some (.int .i64 el) := (blk_cell X4.out 2).trans rfl
                have HR4 := hid (HR6.out.kept (HQ4.out.block d HR6.out.lt))
                have p0 := HR4.out.cell hxN
                have p1 := HR4.out.cell hyN
                have HQd := hid HQ4.out.drew
                have hxI : (x : Int) < (i : Int) := by omega
                have hyI : (y : Int) < (i : Int) := by omega
                have hinn := fun (W : World) => refin_any el mask W k5 k6
                cases hin : inM el mask with
                | false =>
                  simp only [hin] at hinn
                  have HI := hid hinn
                  clear hinn
                  refine wp_region_still_lit (by kernel_rfl) (by kernel_rfl) ?_
                  repeat still_step
                  still_call (HI.out w4.drew)
                  refine wpStill_held ?_
                  refine held_on (by kernel_rfl) (fun K hK => ?_)
                  go_simp
                  refine hK _ ?_
                  clear hK K
                  iterate 11 (refine held_off (by kernel_rfl) (fun K hK => ?_); go_simp; refine hK _ ?_; clear hK K)
                  refine held_on (by kernel_rfl) (fun K hK => ?_)
                  go_simp
                  refine hK _ ?_
                  clear hK K
                  refine held_nil ?_
                  generalize hw9 : ({ heap := w4.heap, tape := w4.tape, drawn := w4.drawn + 1, os := w4.os, output := w4.output } : World) = w9
                  have HQd2 : Hid (Below w6.heap.size w6 w9) := by rw [← hw9]; exact HQd
                  clear hw9 HQd
                  have hp63 : (p : Int) + 1 ≤ 9223372036854775807 := by omega
                  go_wp2_with fail
                  go_roundg (len3 - (p + 1))
                  case measure => omega
                  case rel => exact ⟨p + 1, by omega, rfl, by go_num, HQd2⟩
                | true =>
                  simp only [hin] at hinn
                  have HI := hid hinn
                  have hlt2 := hedge.out x y rfl rfl hyN hin
                  clear hinn
                  obtain ⟨kx, hkx⟩ : ∃ kx, kx = PL out i x := ⟨_, rfl⟩
                  obtain ⟨ky, hky⟩ : ∃ ky, ky = PL out i y := ⟨_, rfl⟩
                  rw [← hkx] at p0 hlt2
                  rw [← hky] at p1 hlt2
                  have hle2 : ¬ ky ≤ kx := by omega
                  clear hkx hky hlt2
                  refine wp_region_still_lit (by kernel_rfl) (by kernel_rfl) ?_
                  repeat still_step
                  still_call (HI.out w4.drew)
                  refine wpStill_held ?_
                  iterate 13 (refine held_on (by kernel_rfl) (fun K hK => ?_); go_simp; refine hK _ ?_; clear hK K)
                  refine held_nil ?_
                  generalize hw9 : ({ heap := w4.heap, tape := w4.tape, drawn := w4.drawn + 1, os := w4.os, output := w4.output } : World) = w9
                  have HQd2 : Hid (Below w6.heap.size w6 w9) := by rw [← hw9]; exact HQd
                  clear hw9 HQd
                  have hp63 : (p : Int) + 1 ≤ 9223372036854775807 := by omega
                  go_wp2_with fail
                  go_roundg (len3 - (p + 1))
                  case measure => omega
                  case rel => exact ⟨p + 1, by omega, rfl, by go_num, HQd2⟩
              · have hpe : len3 = p := by omega
                subst hpe
                go_wp2_with fail
                go_ret
                exact ⟨rfl, HB6.out.trans (HQ.out.mono HB6.out.size)⟩
end Go.Proofs.Ytbbfbkoanbdghaa
