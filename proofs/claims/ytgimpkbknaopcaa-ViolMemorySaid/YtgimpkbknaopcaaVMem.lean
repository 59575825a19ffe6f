/- The walk of ViolMemory. No statement is proved here. -/
import Derived.Test.YtgimpkbknaopcaaMmB
import Derived.Test.YtgimpkbknaopcaaPlB
set_option linter.unusedVariables false
set_option linter.unusedSimpArgs false
namespace Go.Proofs.Ytgimpkbknaopcaa
open Go.RowKit Go.Shelf Go.Lib
open Go.Sort hiding Below

theorem own_addr {w : World} {a : Option Addr} {n c : Nat} {l : List V} (h : OwnV w (.slice a n c) l) : ∀ b o, a = some ⟨b, o, none⟩ → (Value.slice a n c).ownBlock = some b ∧ o = 0 ∧ b < w.heap.size := fun b o e => by
  rcases h.2 with ⟨hh, _⟩ | ⟨g', c', cur, hh, _, hg, _⟩
  · rw [e] at hh
    cases hh
  · have h9 := (Value.slice.inj hh).1
    rw [e] at h9
    cases h9
    rw [e]
    exact ⟨rfl, rfl, blk_lt hg⟩
theorem mkR_all (m : Nat → List V) {i : Nat} (hi : i < 5) : mkR m 5 0 i = List.replicate (m i).length (mkV (20 + i)) := by
  unfold mkR
  rw [if_pos hi]
theorem sortV_perm (l : List V) : (sortV l).Perm l := by
  have h1 := sort_map _ (ptsOf 0 l) (Nat.le_refl _)
  rw [ptsOf_map] at h1
  rw [h1]
  have h2 := (sort_perm _ (ptsOf 0 l) (Nat.le_refl _)).map (·.v)
  rw [ptsOf_map] at h2
  exact h2
set_option maxHeartbeats 16000000 in
set_option maxRecDepth 1000000 in
theorem vmem_walk (a : Option Addr) (cap : Nat) (l : List V) (w : World) (hin : VIn w a l) (hcap : l.length ≤ cap) (hnil : a = none → l = []) :
    Calls Try.prog 7 #[.slice a l.length cap] w fun e w' => e = .returned (.bool true) ∧ Below w.heap.size w w' := by
  have HA := hid (anchor_any w)
  obtain ⟨n, hn⟩ : ∃ n, n = l.length := ⟨_, rfl⟩
  have HN := hid hn
  have HIN := hid hin
  have HCP := hid hcap
  have HNIL := hid hnil
  rw [← hn]
  clear hn hin hcap hnil
  by_cases hlo : n < 1
  · have h1I : (n : Int) < 1 := by omega
    clear hlo
    go_enter Try.func7, Try.ntmps7
    go_wp2_with (first | (go_at_call 9; refine HA.out.mono ?_; rintro e w1 ⟨rfl, hb1⟩) | (go_at_call 10; refine (new_good 10000 w1 (by omega) (by omega)).mono ?_; rintro e w2 ⟨t, rfl, hT, hb2⟩))
    go_ret
    exact ⟨rfl, hb1.trans (hb2.mono hb1.size)⟩
  have h1I : ¬ (n : Int) < 1 := by omega
  by_cases hhi : 100 < n
  · have h2I : (100 : Int) < (n : Int) := by omega
    clear hlo hhi
    go_enter Try.func7, Try.ntmps7
    go_wp2_with (first | (go_at_call 9; refine HA.out.mono ?_; rintro e w1 ⟨rfl, hb1⟩) | (go_at_call 10; refine (new_good 10000 w1 (by omega) (by omega)).mono ?_; rintro e w2 ⟨t, rfl, hT, hb2⟩))
    go_ret
    exact ⟨rfl, hb1.trans (hb2.mono hb1.size)⟩
  have h2I : ¬ (100 : Int) < (n : Int) := by omega
  have HG := hid (show 1 ≤ n ∧ n ≤ 100 by omega)
  clear hlo hhi
  go_enter Try.func7, Try.ntmps7
  go_upto_region 8 with (first | (go_at_call 9; refine HA.out.mono ?_; rintro e w1 ⟨rfl, hb1⟩) | (go_at_call 10; refine (new_good 10000 w1 (by omega) (by omega)).mono ?_; rintro e w2 ⟨t, rfl, hT, hb2⟩))
  have P0 := hid (pl_new (lim := 10000) hT hb1.size)
  have HBE := hid (hb1.trans (hb2.mono hb1.size))
  clear hT hb1 hb2 h1I h2I HA
  go_wp2_with fail
  go_loopg [5, 46] n (fun gh s5 s46 wr => ∃ (k : Nat) (hv : Value) (all row : List Pt), k ≤ n ∧ n - k = gh ∧ s46 = .int .i64 (k : Int) ∧ Hid (Pl w.heap.size wr t 10000 hv s5 all row) ∧ Hid (Below w.heap.size w wr) ∧ all.length ≤ k)
  case atStart => exact ⟨0, _, [], [], Nat.zero_le _, rfl, rfl, P0, HBE, Nat.le_refl _⟩
  case round =>
    clear P0 HBE
    obtain ⟨k, hv, all, row, hk, rfl, rfl, P, HBL, hak⟩ := hrel
    by_cases hlt : k < n
    · have hkI : (k : Int) < (n : Int) := by omega
      have hkl : k < l.length := by rw [← HN.out]; exact hlt
      obtain ⟨x, ox, hax, hxl, hxc⟩ := (HIN.out.below HBL.out) (by intro h; rw [h] at hkl; simp at hkl)
      subst hax
      have hx := hxc k hkl
      obtain ⟨v, hvv⟩ : ∃ v, v = l[k] := ⟨_, rfl⟩
      rw [← hvv] at hx
      have x0 : wr.cell? ⟨x, ox + k * 12, none⟩ = some (.int .i64 v.kind) := hx 0 (by omega)
      have x1 : wr.cell? ⟨x, ox + k * 12 + 1, none⟩ = some (.int .i64 v.time) := hx 1 (by omega)
      have x2 : wr.cell? ⟨x, ox + k * 12 + 2, none⟩ = some (.int .i64 v.txn) := hx 2 (by omega)
      have x3 : wr.cell? ⟨x, ox + k * 12 + 3, none⟩ = some (.int .i64 v.op) := hx 3 (by omega)
      have x4 : wr.cell? ⟨x, ox + k * 12 + 4, none⟩ = some (.int .i64 v.wit) := hx 4 (by omega)
      have x5 : wr.cell? ⟨x, ox + k * 12 + 5, none⟩ = some (.string v.key) := hx 5 (by omega)
      have x6 : wr.cell? ⟨x, ox + k * 12 + 6, none⟩ = some (.bool v.want) := hx 6 (by omega)
      have x7 : wr.cell? ⟨x, ox + k * 12 + 7, none⟩ = some (.string v.exp) := hx 7 (by omega)
      have x8 : wr.cell? ⟨x, ox + k * 12 + 8, none⟩ = some (.bool v.got) := hx 8 (by omega)
      have x9 : wr.cell? ⟨x, ox + k * 12 + 9, none⟩ = some (.string v.obs) := hx 9 (by omega)
      have x10 : wr.cell? ⟨x, ox + k * 12 + 10, none⟩ = some (.int .i64 v.frm) := hx 10 (by omega)
      have x11 : wr.cell? ⟨x, ox + k * 12 + 11, none⟩ = some (.int .i64 v.to) := hx 11 (by omega)
      have HLT := hid (And.intro hlt hak)
      have wk : IntKind.i64.wrap ((k : Int) + 1) = (k : Int) + 1 := by rw [IntKind.wrap_i64]; have := HG.out; omega
      clear hx hxc hxl hvv hk hlt hak hkl
      go_upto_region 12 with fail
      clear x0 x1 x2 x3 x4 x5 x6 x7 x8 x9 x10 x11
      have hal := (Below.refl _ wr).alloc (Nat.le_refl _) (.cells #[.int .i64 v.kind, .int .i64 v.time, .int .i64 v.txn, .int .i64 v.op, .int .i64 v.wit, .string v.key, .bool v.want, .string v.exp, .bool v.got, .string v.obs, .int .i64 v.frm, .int .i64 v.to] 30)
      have X7 := heap_alloc_new wr (.cells #[.int .i64 v.kind, .int .i64 v.time, .int .i64 v.txn, .int .i64 v.op, .int .i64 v.wit, .string v.key, .bool v.want, .string v.exp, .bool v.got, .string v.obs, .int .i64 v.frm, .int .i64 v.to] 30)
      obtain ⟨wa, hwa⟩ : ∃ wa, wr.alloc (.cells #[.int .i64 v.kind, .int .i64 v.time, .int .i64 v.txn, .int .i64 v.op, .int .i64 v.wit, .string v.key, .bool v.want, .string v.exp, .bool v.got, .string v.obs, .int .i64 v.frm, .int .i64 v.to] 30) = wa := ⟨_, rfl⟩
      obtain ⟨t7, ht7⟩ : ∃ t7, t7 = wr.heap.size := ⟨_, rfl⟩
      rw [hwa] at hal X7
      rw [← ht7] at X7
      rw [hwa, ← ht7]
      have Pa := hid (P.out.below hal)
      have HBA := hid (HBL.out.trans (hal.mono HBL.out.size))
      have HTT : Hid (t7 ≠ t ∧ hv.ownBlock ≠ some t7) := hid ⟨by have := blk_lt P.out.tp.ht; omega, fun e => by have := own_lt P.out.tp.own _ e; omega⟩
      have HX7 := hid X7
      have z0 : wa.cell? ⟨t7, 0, none⟩ = some (.int .i64 v.kind) := (blk_cell X7 0).trans rfl
      have z1 : wa.cell? ⟨t7, 1, none⟩ = some (.int .i64 v.time) := (blk_cell X7 1).trans rfl
      have z2 : wa.cell? ⟨t7, 2, none⟩ = some (.int .i64 v.txn) := (blk_cell X7 2).trans rfl
      have z3 : wa.cell? ⟨t7, 3, none⟩ = some (.int .i64 v.op) := (blk_cell X7 3).trans rfl
      have z4 : wa.cell? ⟨t7, 4, none⟩ = some (.int .i64 v.wit) := (blk_cell X7 4).trans rfl
      have z5 : wa.cell? ⟨t7, 5, none⟩ = some (.string v.key) := (blk_cell X7 5).trans rfl
      have z6 : wa.cell? ⟨t7, 6, none⟩ = some (.bool v.want) := (blk_cell X7 6).trans rfl
      have z7 : wa.cell? ⟨t7, 7, none⟩ = some (.string v.exp) := (blk_cell X7 7).trans rfl
      have z8 : wa.cell? ⟨t7, 8, none⟩ = some (.bool v.got) := (blk_cell X7 8).trans rfl
      have z9 : wa.cell? ⟨t7, 9, none⟩ = some (.string v.obs) := (blk_cell X7 9).trans rfl
      have z10 : wa.cell? ⟨t7, 10, none⟩ = some (.int .i64 v.frm) := (blk_cell X7 10).trans rfl
      have z11 : wa.cell? ⟨t7, 11, none⟩ = some (.int .i64 v.to) := (blk_cell X7 11).trans rfl
      have HPUT := hid (put_any (Rest wa t hv) t ((10000 : Nat) : Int) (all.length : Int) hv row v wa Pa.out.tpk (by omega) (by omega) (by have := Pa.out.len; omega) (by omega) (by have := HLT.out; have := HG.out; omega) (rest_fit _ _ _))
      clear hal X7 hwa ht7 P HBL
      go_upto_if 53 with (go_at_call 11; refine HPUT.out.mono ?_; rintro e w4 (⟨hval, rfl, hb4⟩ | ⟨hval, rfl, hv', hT4, hb4⟩))
      all_goals clear z0 z1 z2 z3 z4 z5 z6 z7 z8 z9 z10 z11 HPUT
      · have P4 := hid (Pa.out.below hb4)
        have HB4 := hid (HBA.out.trans (hb4.mono HBA.out.size))
        clear hb4 hval Pa HBA HX7
        go_wp2_with fail
        go_roundg (n - (k + 1))
        case measure => have := HLT.out; omega
        case rel => exact ⟨k + 1, hv, all, row, HLT.out.1, rfl, by go_num, P4, HB4, by have := HLT.out; omega⟩
      · have n4 : w4.heap[t7]? = _ := (hb4.block t7 ⟨blk_lt HX7.out, HTT.out.1, HTT.out.2⟩).trans HX7.out
        have z0 : w4.cell? ⟨t7, 0, none⟩ = some (.int .i64 v.kind) := (blk_cell n4 0).trans rfl
        have z1 : w4.cell? ⟨t7, 1, none⟩ = some (.int .i64 v.time) := (blk_cell n4 1).trans rfl
        have z2 : w4.cell? ⟨t7, 2, none⟩ = some (.int .i64 v.txn) := (blk_cell n4 2).trans rfl
        have z3 : w4.cell? ⟨t7, 3, none⟩ = some (.int .i64 v.op) := (blk_cell n4 3).trans rfl
        have z4 : w4.cell? ⟨t7, 4, none⟩ = some (.int .i64 v.wit) := (blk_cell n4 4).trans rfl
        have z5 : w4.cell? ⟨t7, 5, none⟩ = some (.string v.key) := (blk_cell n4 5).trans rfl
        have z6 : w4.cell? ⟨t7, 6, none⟩ = some (.bool v.want) := (blk_cell n4 6).trans rfl
        have z7 : w4.cell? ⟨t7, 7, none⟩ = some (.string v.exp) := (blk_cell n4 7).trans rfl
        have z8 : w4.cell? ⟨t7, 8, none⟩ = some (.bool v.got) := (blk_cell n4 8).trans rfl
        have z9 : w4.cell? ⟨t7, 9, none⟩ = some (.string v.obs) := (blk_cell n4 9).trans rfl
        have z10 : w4.cell? ⟨t7, 10, none⟩ = some (.int .i64 v.frm) := (blk_cell n4 10).trans rfl
        have z11 : w4.cell? ⟨t7, 11, none⟩ = some (.int .i64 v.to) := (blk_cell n4 11).trans rfl
        have hal2 := (Below.refl _ w4).alloc (Nat.le_refl _) (.cells #[.int .i64 v.kind, .int .i64 v.time, .int .i64 v.txn, .int .i64 v.op, .int .i64 v.wit, .string v.key, .bool v.want, .string v.exp, .bool v.got, .string v.obs, .int .i64 v.frm, .int .i64 v.to] 30)
        have ho6 := ownV_below (Pa.out.ownV hb4) hal2
        obtain ⟨va', w7, hrun, hown, hgr, hdis⟩ := app_viol (w4.alloc (.cells #[.int .i64 v.kind, .int .i64 v.time, .int .i64 v.txn, .int .i64 v.op, .int .i64 v.wit, .string v.key, .bool v.want, .string v.exp, .bool v.got, .string v.obs, .int .i64 v.frm, .int .i64 v.to] 30)) 28 u5 _ v ho6 w4.heap.size (heap_alloc_new _ _) (by rw [List.length_map]; have := HLT.out; have := HG.out; omega)
        obtain ⟨q1, q2⟩ := Pa.out.put HBA.out.size hT4 hb4 hal2 hown hgr hdis
        have Q1 := hid q1
        have Q2 := hid (HBA.out.trans q2)
        clear q1 q2 hown hgr hdis ho6 hal2 n4 hT4 hb4 hval Pa HBA HX7
        go_wp2_with (at_builtin; refine wpList_append_run _ rfl (.tmp 54) (.tmp 56) 28 28 rfl _ _ rfl rfl hrun ?_)
        go_roundg (n - (k + 1))
        case measure => have := HLT.out; omega
        case rel => exact ⟨k + 1, hv', _, _, HLT.out.1, rfl, by go_num, Q1, Q2, by have := HLT.out; simp; omega⟩
    · have hkI : ¬ (k : Int) < (n : Int) := by omega
      have HAK := hid (show all.length ≤ 100 by have := HG.out; omega)
      clear hk hlt hak
      go_upto_region 15 with fail
      have hK : (all.map (·.v)).length ≤ 100 := by rw [List.length_map]; exact HAK.out
      obtain ⟨A, hA⟩ : ∃ A, A = all.map (·.v) := ⟨_, rfl⟩
      rw [← hA] at hK
      have HA' := hid hA
      obtain ⟨K, hKK⟩ : ∃ K, K = A.length := ⟨_, rfl⟩
      have HK := hid hKK
      have HK1 := hid (show K ≤ 100 by omega)
      obtain ⟨a7, c7, e7, hv7, hc7, hn7⟩ := own_vin2 P.out.own
      rw [← hA, ← hKK] at e7
      rw [← hA] at hv7 hc7 hn7
      subst e7
      have HV7 := hid (And.intro hv7 (And.intro hc7 hn7))
      obtain ⟨g, c, w5, hrun, hown, hgs, hbel⟩ := copy_viols (HIN.out.below HBL.out) cap (by rw [← HN.out]; have := HG.out; omega) HNIL.out
      rw [← HN.out] at hrun hown
      have HB5 := hid (HBL.out.trans (hbel.mono HBL.out.size))
      have P5 := hid (P.out.below hbel)
      have HO5 := hid hown
      have HG5 := hid (And.intro hgs (ownV_lt hown g rfl))
      have V75 := hid (HV7.out.1.below hbel)
      have hs1 := vsort_any (some ⟨g, 0, none⟩) c l w5 (own_vinS hown) (by rw [← HN.out]; have := HG.out; omega) (fun h => by cases h)
      rw [← HN.out] at hs1
      have HS1 := hid hs1
      have HSL : Hid ((sortV l).length = n) := hid (by rw [(sortV_perm l).length_eq, HN.out])
      have HAS : Hid ((sortV A).length = K) := hid (by rw [(sortV_perm A).length_eq, HK.out])
      have HTP := hid (And.intro (blk_lt P.out.tp.ht) (And.intro (own_lt P.out.tp.own) HBL.out.size))
      have HKA : Hid ((all.length : Int) = (K : Int)) := hid (by rw [hKK, hA, List.length_map])
      clear hK hA hKK hv7 hc7 hn7 hown hgs hbel hs1 P
      go_upto_region 17 with (first | (at_builtin; refine wpList_append_run _ rfl (.tmp 59) (.tmp 60) 28 28 rfl _ _ rfl rfl hrun ?_) | (go_at_call 19; refine HS1.out.mono ?_; rintro e w6 ⟨vp, rfl, hop, hnp, hb6⟩; have HOP := hid hop; have HNP := hid hnp; have HB6 := hid hb6; have hs2 := vsort_any (some ⟨g, 0, none⟩) c l w6 (own_vinS (ownV_below HO5.out hb6)) (by rw [← HN.out]; have := HG.out; omega) (fun h => by cases h); rw [← HN.out] at hs2; have HS2 := hid hs2; clear hop hnp hb6 hs2 HS1) | (go_at_call 19; refine HS2.out.mono ?_; rintro e w7 ⟨vq, rfl, hoq, hnq, hb7⟩; have HOQ := hid hoq; have HNQ := hid hnq; have HB7 := hid hb7; clear hoq hnq hb7 HS2))
      clear hrun
      have P7 := hid ((P5.out.below HB6.out).below HB7.out)
      have hl1 := list_any _ t _ _ _ _ _ P7.out.tp (by have := P7.out.len; omega)
      have HL1 := hid hl1
      have HLS : Hid (∀ (d : Array Pt), PermIn 0 row.length row.toArray d → SortedIn (ltOf cfP) 0 row.length d → d.toList.map (·.v) = sortV A) := hid fun d hp hs => by
        rw [P7.out.list hp hs, ← HA'.out, List.take_of_length_le (by rw [HAS.out]; have := HK1.out; omega)]
      clear hl1 P5
      go_upto_region 18 with (first | (go_at_call 14; refine HL1.out.mono ?_; rintro e w8 ⟨va, d1, rfl, hp1, hs1, hoa, hna, hb8⟩; rw [HLS.out d1 hp1 hs1] at hoa; have HOA := hid hoa; have HNA := hid hna; have HB8 := hid hb8; have P8 := hid (P7.out.below hb8); have HL2 := hid (list_any _ t _ _ _ _ _ P8.out.tp (by have := P8.out.len; omega)); clear hp1 hs1 hoa hna hb8 HL1) | (go_at_call 14; refine HL2.out.mono ?_; rintro e w9 ⟨vb, d2, rfl, hp2, hs2, hob, hnb, hb9⟩; rw [HLS.out d2 hp2 hs2] at hob; have HOB := hid hob; have HNB := hid hnb; have HB9 := hid hb9; have P9 := hid (P8.out.below hb9); clear hp2 hs2 hob hnb hb9 HL2))
      have HW9 := hid (HB5.out.trans (((((HB6.out.trans (HB7.out.mono HB6.out.size)).trans (HB8.out.mono (HB6.out.trans (HB7.out.mono HB6.out.size)).size))).trans (HB9.out.mono (Nat.le_trans (Nat.le_trans HB6.out.size HB7.out.size) HB8.out.size))).mono HB5.out.size))
      have hsr := sort_ref _ A a7 c7 w9 (Nat.le_refl _) HV7.out.2.1 (by rw [← HK.out]; have := HK1.out; omega) ((((V75.out.below HB6.out).below HB7.out).below HB8.out).below HB9.out) HV7.out.2.2
      rw [← HK.out] at hsr
      have HSR := hid hsr
      clear hsr
      go_upto_region 19 with (go_at_call 20; refine HSR.out.mono ?_; rintro e w10 ⟨vw, rfl, how, hnw, hb10⟩; have HOW := hid how; have HNW := hid hnw; have HB10 := hid hb10; clear how hnw hb10 HSR)
      have B910 := HB10.out
      have S9 := HB10.out.size
      have S8 := HB9.out.size
      have S7 := HB8.out.size
      have S6 := HB7.out.size
      have S5 := HB6.out.size
      have B810 : Below w8.heap.size w8 w10 := HB9.out.trans (B910.mono S8)
      have B710 : Below w7.heap.size w7 w10 := HB8.out.trans (B810.mono S7)
      have B610 : Below w6.heap.size w6 w10 := HB7.out.trans (B710.mono S6)
      have B510 : Below w5.heap.size w5 w10 := HB6.out.trans (B610.mono S5)
      have HSZ := hid (And.intro S5 (And.intro S6 (And.intro S7 (And.intro S8 S9))))
      obtain ⟨ap, cp, ep, _⟩ := own_vin HOP.out
      obtain ⟨aq, cq, eq, _⟩ := own_vin HOQ.out
      obtain ⟨aa, ca, ea, _⟩ := own_vin HOA.out
      obtain ⟨ab, cb, eb, _⟩ := own_vin HOB.out
      obtain ⟨aw, cw, ew, _⟩ := own_vin HOW.out
      rw [HSL.out] at ep eq
      rw [HAS.out] at ea eb ew
      subst ep
      subst eq
      subst ea
      subst eb
      subst ew
      have OP := hid (ownV_below HOP.out B610)
      have OQ := hid (ownV_below HOQ.out B710)
      have OA := hid (ownV_below HOA.out B810)
      have OB := hid (ownV_below HOB.out B910)
      have OG := hid (ownV_below HO5.out B510)
      have P10 := hid (P9.out.below B910)
      have HW10 := hid (HW9.out.trans (B910.mono HW9.out.size))
      have LP := hid (ownV_lt HOP.out)
      have LQ := hid (ownV_lt HOQ.out)
      have LA := hid (ownV_lt HOA.out)
      have LB := hid (ownV_lt HOB.out)
      have LG := hid (ownV_lt HO5.out)
      have q1 := same_eq aa aw ca cw (sortV A) w10 (own_vinS OA.out) (own_vinS HOW.out) (by rw [HAS.out]; have := HK1.out; omega)
      rw [HAS.out] at q1
      have SQ1 := hid q1
      clear B910 S9 S8 S7 S6 S5 B810 B710 B610 B510 q1 HOP HOQ HOA HOB HO5 P7 P8 P9 HB6 HB7 HB8 HB9 HB10
      go_upto_region 21 with (first | (go_at_call 13; refine SQ1.out.mono ?_; rintro e w11 ⟨rfl, hb⟩; have HB11 := hid hb; have q2 := same_eq ab aw cb cw (sortV A) w11 ((own_vinS OB.out).below hb) ((own_vinS HOW.out).below hb) (by rw [HAS.out]; have := HK1.out; omega); rw [HAS.out] at q2; have SQ2 := hid q2; clear hb q2 SQ1) | (go_at_call 13; refine SQ2.out.mono ?_; rintro e w12 ⟨rfl, hb⟩; have HB12 := hid (HB11.out.trans (hb.mono HB11.out.size)); have q3 := same_eq ap aq cp cq (sortV l) w12 ((own_vinS OP.out).below HB12.out) ((own_vinS OQ.out).below HB12.out) (by rw [HSL.out]; have := HG.out; omega); rw [HSL.out] at q3; have SQ3 := hid q3; clear hb q3 SQ2) | (go_at_call 13; refine SQ3.out.mono ?_; rintro e w13 ⟨rfl, hb⟩; have HB13 := hid (HB12.out.trans (hb.mono HB12.out.size)); have q4 := sort_ref _ l a cap w13 (Nat.le_refl _) HCP.out (by rw [← HN.out]; have := HG.out; omega) ((HIN.out.below HW10.out).below HB13.out) HNIL.out; rw [← HN.out] at q4; have SQ4 := hid q4; clear hb q4 SQ3) | (go_at_call 20; refine SQ4.out.mono ?_; rintro e w14 ⟨vz, rfl, hoz, hnz, hb⟩; have HB14 := hid (HB13.out.trans (hb.mono HB13.out.size)); obtain ⟨az, cz, ez, hvz⟩ := own_vin hoz; rw [HSL.out] at ez; subst ez; have q5 := same_eq aq az cq cz (sortV l) w14 ((own_vinS OQ.out).below HB14.out) hvz (by rw [HSL.out]; have := HG.out; omega); rw [HSL.out] at q5; have SQ5 := hid q5; clear hb q5 hoz hnz hvz SQ4) | (go_at_call 13; refine SQ5.out.mono ?_; rintro e w15 ⟨rfl, hb⟩; have HB15 := hid (HB14.out.trans (hb.mono HB14.out.size)); clear hb SQ5))
      go_upto_region 22 with fail
      have hal := (Below.refl _ w15).alloc (Nat.le_refl _) (.cells #[.slice ap n cp, .slice aq n cq, .slice aa K ca, .slice ab K cb, .slice (some ⟨g, 0, none⟩) n c] 28)
      have X := heap_alloc_new w15 (.cells #[.slice ap n cp, .slice aq n cq, .slice aa K ca, .slice ab K cb, .slice (some ⟨g, 0, none⟩) n c] 28)
      obtain ⟨w16, hw16⟩ : ∃ w16, w15.alloc (.cells #[.slice ap n cp, .slice aq n cq, .slice aa K ca, .slice ab K cb, .slice (some ⟨g, 0, none⟩) n c] 28) = w16 := ⟨_, rfl⟩
      obtain ⟨lb, hlb⟩ : ∃ lb, lb = w15.heap.size := ⟨_, rfl⟩
      rw [hw16] at hal X
      rw [← hlb] at X
      rw [hw16, ← hlb]
      obtain ⟨ad, d0, d1, d2, d3, d4⟩ : ∃ ad : Nat → Option Addr, ad 0 = ap ∧ ad 1 = aq ∧ ad 2 = aa ∧ ad 3 = ab ∧ ad 4 = some ⟨g, 0, none⟩ := ⟨fun j => if j = 0 then ap else if j = 1 then aq else if j = 2 then aa else if j = 3 then ab else some ⟨g, 0, none⟩, rfl, rfl, rfl, rfl, rfl⟩
      obtain ⟨M, m0, m1, m2, m3, m4⟩ : ∃ M : Nat → Nat, M 0 = n ∧ M 1 = n ∧ M 2 = K ∧ M 3 = K ∧ M 4 = n := ⟨fun j => if j = 0 then n else if j = 1 then n else if j = 2 then K else if j = 3 then K else n, rfl, rfl, rfl, rfl, rfl⟩
      obtain ⟨cc, f0, f1, f2, f3, f4⟩ : ∃ cc : Nat → Nat, cc 0 = cp ∧ cc 1 = cq ∧ cc 2 = ca ∧ cc 3 = cb ∧ cc 4 = c := ⟨fun j => if j = 0 then cp else if j = 1 then cq else if j = 2 then ca else if j = 3 then cb else c, rfl, rfl, rfl, rfl, rfl⟩
      obtain ⟨ct, t0, t1, t2, t3, t4⟩ : ∃ ct : Nat → List V, ct 0 = sortV l ∧ ct 1 = sortV l ∧ ct 2 = sortV A ∧ ct 3 = sortV A ∧ ct 4 = l := ⟨fun j => if j = 0 then sortV l else if j = 1 then sortV l else if j = 2 then sortV A else if j = 3 then sortV A else l, rfl, rfl, rfl, rfl, rfl⟩
      obtain ⟨lo, l0, l1, l2, l3, l4⟩ : ∃ lo : Nat → Nat, lo 0 = w5.heap.size ∧ lo 1 = w6.heap.size ∧ lo 2 = w7.heap.size ∧ lo 3 = w8.heap.size ∧ lo 4 = wr.heap.size := ⟨fun j => if j = 0 then w5.heap.size else if j = 1 then w6.heap.size else if j = 2 then w7.heap.size else if j = 3 then w8.heap.size else wr.heap.size, rfl, rfl, rfl, rfl, rfl⟩
      obtain ⟨up, u0, u1, u2, u3, u4⟩ : ∃ up : Nat → Nat, up 0 = w6.heap.size ∧ up 1 = w7.heap.size ∧ up 2 = w8.heap.size ∧ up 3 = w9.heap.size ∧ up 4 = w5.heap.size := ⟨fun j => if j = 0 then w6.heap.size else if j = 1 then w7.heap.size else if j = 2 then w8.heap.size else if j = 3 then w9.heap.size else w5.heap.size, rfl, rfl, rfl, rfl, rfl⟩
      have g5 : ∀ j, j < 5 → j = 0 ∨ j = 1 ∨ j = 2 ∨ j = 3 ∨ j = 4 := fun j hj => by omega
      have hbd : ∀ j, j < 5 → ∀ b, (Value.slice (ad j) (M j) (cc j)).ownBlock = some b → lo j ≤ b ∧ b < up j := fun j hj b hb => by
        rcases g5 j hj with rfl | rfl | rfl | rfl | rfl
        · rw [d0, m0, f0] at hb; rw [l0, u0]; exact ⟨HNP.out b hb, LP.out b hb⟩
        · rw [d1, m1, f1] at hb; rw [l1, u1]; exact ⟨HNQ.out b hb, LQ.out b hb⟩
        · rw [d2, m2, f2] at hb; rw [l2, u2]; exact ⟨HNA.out b hb, LA.out b hb⟩
        · rw [d3, m3, f3] at hb; rw [l3, u3]; exact ⟨HNB.out b hb, LB.out b hb⟩
        · rw [d4, m4, f4] at hb
          rw [l4, u4]
          have e : g = b := Option.some.inj hb
          rw [← e]
          exact HG5.out
      have hsz := HSZ.out
      have B1016 : Below w10.heap.size w10 w16 := HB15.out.trans (hal.mono HB15.out.size)
      have hs10 := B1016.size
      have hs15 := HB15.out.size
      have hR : RowsV w16 lb 5 ad M cc ct := by
        refine ⟨fun j hj => (blk_cell X j).trans ?_, blk_lt X, fun j hj => ?_, fun j hj => ?_, fun j k hj hk hjk b h1 h2 => ?_, fun j hj h1 => ?_⟩
        · rcases g5 j hj with rfl | rfl | rfl | rfl | rfl
          · rw [d0, m0, f0]; rfl
          · rw [d1, m1, f1]; rfl
          · rw [d2, m2, f2]; rfl
          · rw [d3, m3, f3]; rfl
          · rw [d4, m4, f4]; rfl
        · rcases g5 j hj with rfl | rfl | rfl | rfl | rfl
          · rw [d0, m0, f0, t0]; exact ownV_below OP.out B1016
          · rw [d1, m1, f1, t1]; exact ownV_below OQ.out B1016
          · rw [d2, m2, f2, t2]; exact ownV_below OA.out B1016
          · rw [d3, m3, f3, t3]; exact ownV_below OB.out B1016
          · rw [d4, m4, f4, t4]; exact ownV_below OG.out B1016
        · rcases g5 j hj with rfl | rfl | rfl | rfl | rfl
          · rw [m0, t0, HSL.out]
          · rw [m1, t1, HSL.out]
          · rw [m2, t2, HAS.out]
          · rw [m3, t3, HAS.out]
          · rw [m4, t4, HN.out]
        · have q1 := hbd j hj b h1
          have q2 := hbd k hk b h2
          rcases g5 j hj with rfl | rfl | rfl | rfl | rfl <;> rcases g5 k hk with rfl | rfl | rfl | rfl | rfl <;> omega
        · have q1 := hbd j hj lb h1
          rcases g5 j hj with rfl | rfl | rfl | rfl | rfl <;> omega
      have HTP2 : Hid (t < lo 4 ∧ (∀ k, hv.ownBlock = some k → k < lo 4) ∧ ∀ j, j < 5 → lo 4 ≤ lo j ∧ w.heap.size ≤ lo j ∧ up j ≤ w9.heap.size) := hid (by
        have q1 := HTP.out
        have q2 := HG5.out
        rw [l4]
        refine ⟨q1.1, q1.2.1, fun j hj => ?_⟩
        have q3 := q1.2.2
        rcases g5 j hj with rfl | rfl | rfl | rfl | rfl <;> omega)
      have HR0 : Hid (RowsV w16 lb 5 ad M cc (mkR ct 0 0)) := hid (by rw [mkR_zero]; exact hR)
      have HBD := hid hbd
      have HLO := hid (And.intro l0 (And.intro l1 (And.intro l2 (And.intro l3 l4))))
      have HUP := hid (And.intro u0 (And.intro u1 (And.intro u2 (And.intro u3 u4))))
      have HMM := hid (And.intro m0 (And.intro m1 (And.intro m2 (And.intro m3 m4))))
      have HMC : Hid (∀ j, j < 5 → M j = (ct j).length ∧ M j ≤ 100) := hid fun j hj => ⟨hR.ln j hj, by have := HG.out; have := HK1.out; rcases g5 j hj with rfl | rfl | rfl | rfl | rfl <;> omega⟩
      have B16 := hid B1016
      clear hal X hw16 hlb d0 d1 d2 d3 d4 m0 m1 m2 m3 m4 f0 f1 f2 f3 f4 t0 t1 t2 t3 t4 l0 l1 l2 l3 l4 u0 u1 u2 u3 u4 g5 hbd hsz B1016 hs10 hs15 hR OP OQ OA OB OG
      go_wp2_with fail
      go_loopg [103] 5 (fun gh s103 wx => ∃ i : Nat, 5 - i = gh ∧ i ≤ 5 ∧ s103 = .int .i64 (i : Int) ∧ Hid (RowsV wx lb 5 ad M cc (mkR ct i 0)) ∧ Hid (Upd (fun k => ∃ j, j < 5 ∧ (Value.slice (ad j) (M j) (cc j)).ownBlock = some k) w16 wx))
      case atStart => exact ⟨0, rfl, by omega, rfl, HR0, hid (Upd.refl _ _)⟩
      case round =>
        obtain ⟨i, rfl, hi, rfl, HR, HU⟩ := hrel
        by_cases hi5 : i < 5
        · have cl := HR.out.lst i hi5
          have hi5I : (i : Int) < 5 := by omega
          have wi1 : IntKind.i64.wrap ((i : Int) + 1) = (i : Int) + 1 := by rw [IntKind.wrap_i64]; omega
          have wi20 : IntKind.i64.wrap (20 + (i : Int)) = 20 + (i : Int) := by rw [IntKind.wrap_i64]; omega
          have HI := hid hi5
          clear hi hi5
          by_cases h0 : M i = 0
          · have h0I : (M i : Int) = 0 := by omega
            have HRn : Hid (RowsV wr lb 5 ad M cc (mkR ct (i + 1) 0)) := hid (by
              have h := HR.out
              rw [show (0 : Nat) = (ct i).length from by rw [← (HMC.out i HI.out).1, h0], mkR_next] at h
              exact h)
            clear h0
            go_wp2_with fail
            refine wp_loop_rounds 1 ?_
            rw [rounds_succ]
            go_wp2_with fail
            go_roundg (5 - (i + 1))
            case measure => have := HI.out; omega
            case rel => exact ⟨i + 1, rfl, HI.out, by go_num, HRn, HU⟩
          · obtain ⟨gi, hgi⟩ := HR.out.addr HI.out (by omega)
            rw [hgi] at cl
            obtain ⟨Mi, hMi⟩ : ∃ Mi, Mi = M i := ⟨_, rfl⟩
            rw [← hMi] at cl
            have HGI := hid (And.intro hgi hMi)
            have HMI : Hid (Mi ≤ 100) := hid (by rw [hMi]; exact (HMC.out i HI.out).2)
            clear hgi hMi h0
            go_wp2_with fail
            go_loopg [110] Mi (fun gh s110 wy => ∃ k : Nat, Mi - k = gh ∧ k ≤ Mi ∧ s110 = .int .i64 (k : Int) ∧ Hid (RowsV wy lb 5 ad M cc (mkR ct i k)) ∧ Hid (Upd (fun k => ∃ j, j < 5 ∧ (Value.slice (ad j) (M j) (cc j)).ownBlock = some k) w16 wy))
            case atStart => exact ⟨0, rfl, Nat.zero_le _, rfl, HR, HU⟩
            case round =>
              clear HR HU
              obtain ⟨k, rfl, hk, rfl, HR, HU⟩ := hrel
              by_cases hkm : k < Mi
              · have hkI : (k : Int) < (Mi : Int) := by omega
                have wk : IntKind.i64.wrap ((k : Int) + 1) = (k : Int) + 1 := by rw [IntKind.wrap_i64]; have := HMI.out; omega
                have hrow := HR.out.row i HI.out
                rw [HGI.out.1] at hrow
                have hkl : k < (mkR ct i k i).length := by rw [← HR.out.ln i HI.out, ← HGI.out.2]; exact hkm
                obtain ⟨b, o, e, hbl, hc⟩ := own_vinS hrow (by intro h; rw [h] at hkl; simp at hkl)
                cases e
                have hx := hc k hkl
                obtain ⟨pv, hpv⟩ : ∃ pv, pv = (mkR ct i k i)[k] := ⟨_, rfl⟩
                rw [← hpv] at hx
                simp only [Nat.zero_add] at hx
                have x0 : wr.cell? ⟨gi, k * 12, none⟩ = some (.int .i64 pv.kind) := hx 0 (by omega)
                have x1 : wr.cell? ⟨gi, k * 12 + 1, none⟩ = some (.int .i64 pv.time) := hx 1 (by omega)
                have x2 : wr.cell? ⟨gi, k * 12 + 2, none⟩ = some (.int .i64 pv.txn) := hx 2 (by omega)
                have x3 : wr.cell? ⟨gi, k * 12 + 3, none⟩ = some (.int .i64 pv.op) := hx 3 (by omega)
                have x4 : wr.cell? ⟨gi, k * 12 + 4, none⟩ = some (.int .i64 pv.wit) := hx 4 (by omega)
                have x5 : wr.cell? ⟨gi, k * 12 + 5, none⟩ = some (.string pv.key) := hx 5 (by omega)
                have x6 : wr.cell? ⟨gi, k * 12 + 6, none⟩ = some (.bool pv.want) := hx 6 (by omega)
                have x7 : wr.cell? ⟨gi, k * 12 + 7, none⟩ = some (.string pv.exp) := hx 7 (by omega)
                have x8 : wr.cell? ⟨gi, k * 12 + 8, none⟩ = some (.bool pv.got) := hx 8 (by omega)
                have x9 : wr.cell? ⟨gi, k * 12 + 9, none⟩ = some (.string pv.obs) := hx 9 (by omega)
                have x10 : wr.cell? ⟨gi, k * 12 + 10, none⟩ = some (.int .i64 pv.frm) := hx 10 (by omega)
                have x11 : wr.cell? ⟨gi, k * 12 + 11, none⟩ = some (.int .i64 pv.to) := hx 11 (by omega)
                have hfz : ∀ j, wr.frozen? ⟨gi, j, none⟩ = false := fun j => by
                  rcases hrow.2 with ⟨hh, _⟩ | ⟨g', c', cur, hh, _, hg, _⟩
                  · cases hh
                  · have e : gi = g' := by
                      have h9 := (Value.slice.inj hh).1
                      cases h9
                      rfl
                    rw [e]
                    exact blk_free hg j
                have z0 := hfz (k * 12)
                have z1 := hfz (k * 12 + 1)
                have z2 := hfz (k * 12 + 2)
                have z3 := hfz (k * 12 + 3)
                have z4 := hfz (k * 12 + 4)
                have z5 := hfz (k * 12 + 5)
                have z6 := hfz (k * 12 + 6)
                have z7 := hfz (k * 12 + 7)
                have z8 := hfz (k * 12 + 8)
                have z9 := hfz (k * 12 + 9)
                have z10 := hfz (k * 12 + 10)
                have z11 := hfz (k * 12 + 11)
                have HKM := hid hkm
                clear hrow hkl hbl hc hx hpv hfz hkm hk
                go_wp2_with fail
                go_roundg (Mi - (k + 1))
                case measure => have := HKM.out; omega
                case rel =>
                  have hm := HR.out.mark (HMC.out i HI.out).1 HI.out (by rw [← HGI.out.2]; exact HKM.out) HGI.out.1
                  have hu := HU.out.trans (upd_setCells gi (mkV (20 + i)).cs wr (k * 12)) (T := fun k => k = gi) (fun b _ e => ⟨i, HI.out, by rw [HGI.out.1, e]; rfl⟩)
                  exact ⟨k + 1, rfl, HKM.out, by go_num, hid hm, hid hu⟩
              · have hkI : ¬ (k : Int) < (Mi : Int) := by omega
                have HRn : Hid (RowsV wr lb 5 ad M cc (mkR ct (i + 1) 0)) := hid (by
                  have h := HR.out
                  rw [show k = (ct i).length from by rw [← (HMC.out i HI.out).1, ← HGI.out.2]; omega, mkR_next] at h
                  exact h)
                clear hk hkm
                go_wp2_with fail
                go_roundg (5 - (i + 1))
                case measure => have := HI.out; omega
                case rel => exact ⟨i + 1, rfl, HI.out, by go_num, HRn, HU⟩
        · have hi5' : 5 = i := by omega
          subst hi5'
          clear hi hi5
          go_upto_region 31 with fail
          have HM0 : Hid (MidV wr lb 5 ad M cc (mkR ct 5 0) 0) := hid HR.out.mid
          have HAD : Hid (∀ j, j < 5 → ∀ b o, ad j = some ⟨b, o, none⟩ → (Value.slice (ad j) (M j) (cc j)).ownBlock = some b ∧ o = 0) := hid fun j hj b o e => by
            obtain ⟨h1, h2, _⟩ := own_addr (HR.out.row j hj) b o e
            exact ⟨h1, h2⟩
          clear HR
          go_wp2_with fail
          go_loopg [123] 5 (fun gh s123 wx => ∃ i : Nat, 5 - i = gh ∧ i ≤ 5 ∧ s123 = .int .i64 (i : Int) ∧ Hid (MidV wx lb 5 ad M cc (mkR ct 5 0) i) ∧ Hid (Upd (fun k => ∃ j, j < 5 ∧ (Value.slice (ad j) (M j) (cc j)).ownBlock = some k) w16 wx))
          case atStart => exact ⟨0, rfl, by omega, rfl, HM0, HU⟩
          case round =>
            clear HM0 HU
            obtain ⟨i, rfl, hi, rfl, HMI, HU⟩ := hrel
            by_cases hi5 : i < 5
            · have cl := HMI.out.lst i hi5
              have hi5I : (i : Int) < 5 := by omega
              have wi1 : IntKind.i64.wrap ((i : Int) + 1) = (i : Int) + 1 := by rw [IntKind.wrap_i64]; omega
              have wi40 : IntKind.i64.wrap (40 + (i : Int)) = 40 + (i : Int) := by rw [IntKind.wrap_i64]; omega
              have HI := hid hi5
              have HAP0 := hid (HMI.out.app hi5)
              have HADR := hid (own_addr (HMI.out.row i hi5 (Nat.le_refl _)))
              clear hi hi5
              go_wp2_with fail
              go_loopg [19, 20] 30 (fun gh s19 s20 wy => ∃ (k : Nat) (a' : Option Addr) (n' c' : Nat) (ex : List V), 30 - k = gh ∧ k ≤ 30 ∧ s20 = .int .i64 (k : Int) ∧ s19 = .slice a' n' c' ∧ Hid (n' = M i + k ∧ AppV wr wy (ad i) (M i) (cc i) (mkR ct 5 0 i) a' n' c' ex))
              case atStart => exact ⟨0, _, _, _, _, rfl, by omega, rfl, rfl, hid ⟨rfl, HAP0.out⟩⟩
              case round =>
                obtain ⟨k, a', n', c', ex, rfl, hk, rfl, rfl, HAP⟩ := hrel
                by_cases hk30 : k < 30
                · have hkI : (k : Int) < 30 := by omega
                  obtain ⟨a2, c2, w2', hrun, hap⟩ := HAP.out.2.step HADR.out (by have := HAP.out.1; have := (HMC.out i HI.out).2; omega) (mkV (40 + i))
                  have HAP2 := hid hap
                  have HK4 := hid hk30
                  clear hap hk hk30
                  go_wp2_with (at_builtin; refine wpList_append_run _ rfl (.tmp 132) (.tmp 136) 28 28 rfl _ _ rfl rfl hrun ?_)
                  go_roundg (30 - (k + 1))
                  case measure => have := HK4.out; omega
                  case rel => exact ⟨k + 1, a2, n' + 1, c2, _, rfl, HK4.out, by go_num, rfl, hid ⟨by have := HAP.out.1; omega, HAP2.out⟩⟩
                · have hkI : ¬ (k : Int) < 30 := by omega
                  clear hk hk30
                  go_wp2_with fail
                  go_roundg (5 - (i + 1))
                  case measure => have := HI.out; omega
                  case rel => exact ⟨i + 1, rfl, HI.out, by go_num, hid (HMI.out.next HI.out (fun j hj b o e => (HAD.out j hj b o e).1) HAP.out.2), hid (HU.out.trans HAP.out.2.up fun k _ e => ⟨i, HI.out, e⟩)⟩
            · have hi5' : 5 = i := by omega
              subst hi5'
              clear hi hi5
              go_upto_region 39 with fail
              obtain ⟨wm, hwm⟩ : ∃ wm, wr = wm := ⟨_, rfl⟩
              rw [hwm] at HMI HU ⊢
              clear hwm
              go_wp2_with fail
              go_loopg [141] 5 (fun gh s141 wx => ∃ i : Nat, 5 - i = gh ∧ i ≤ 5 ∧ s141 = .int .i64 (i : Int) ∧ wm = wx)
              case atStart => exact ⟨0, rfl, by omega, rfl, rfl⟩
              case round =>
                obtain ⟨i, rfl, hi, rfl, rfl⟩ := hrel
                by_cases hi5 : i < 5
                · have cl := HMI.out.lst i hi5
                  have hi5I : (i : Int) < 5 := by omega
                  have wi1 : IntKind.i64.wrap ((i : Int) + 1) = (i : Int) + 1 := by rw [IntKind.wrap_i64]; omega
                  have wi20 : IntKind.i64.wrap (20 + (i : Int)) = 20 + (i : Int) := by rw [IntKind.wrap_i64]; omega
                  have HI := hid hi5
                  have hvi := HMI.out.vin i hi5
                  rw [mkR_all ct hi5] at hvi
                  have HVI := hid hvi
                  clear hi hi5 hvi
                  by_cases h0 : M i = 0
                  · have h0I : (M i : Int) = 0 := by omega
                    clear h0
                    go_wp2_with fail
                    refine wp_loop_rounds 1 ?_
                    rw [rounds_succ]
                    go_wp2_with fail
                    go_roundg (5 - (i + 1))
                    case measure => have := HI.out; omega
                    case rel => exact ⟨i + 1, rfl, HI.out, by go_num, rfl⟩
                  · have hml := (HMC.out i HI.out).1
                    obtain ⟨gi, o, hgi, hgl, hgc⟩ := HVI.out (by intro h; have := congrArg List.length h; simp only [List.length_replicate, List.length_nil] at this; omega)
                    obtain ⟨_, ho⟩ := HAD.out i HI.out gi o hgi
                    subst ho
                    rw [hgi] at cl
                    obtain ⟨Mi, hMi⟩ : ∃ Mi, Mi = M i := ⟨_, rfl⟩
                    rw [← hMi] at cl
                    have HGC : Hid (∀ k, k < Mi → wm.cell? ⟨gi, k * 12, none⟩ = some (.int .i64 (20 + (i : Int)))) := hid fun k hk => by
                      have h := hgc k (by rw [List.length_replicate]; omega) 0 (by omega)
                      rw [List.getElem_replicate, Nat.zero_add, Nat.add_zero] at h
                      exact h
                    have HMI9 : Hid (Mi ≤ 100) := hid (by rw [hMi]; exact (HMC.out i HI.out).2)
                    clear hgi hMi h0 hml hgl hgc
                    go_wp2_with fail
                    go_loopg [148] Mi (fun gh s148 wy => ∃ k : Nat, Mi - k = gh ∧ k ≤ Mi ∧ s148 = .int .i64 (k : Int) ∧ wm = wy)
                    case atStart => exact ⟨0, rfl, Nat.zero_le _, rfl, rfl⟩
                    case round =>
                      obtain ⟨k, rfl, hk, rfl, rfl⟩ := hrel
                      by_cases hkm : k < Mi
                      · have cx := HGC.out k hkm
                        have hkI : (k : Int) < (Mi : Int) := by omega
                        have wk : IntKind.i64.wrap ((k : Int) + 1) = (k : Int) + 1 := by rw [IntKind.wrap_i64]; have := HMI9.out; omega
                        have HKM := hid hkm
                        clear hkm hk
                        go_wp2_with fail
                        go_roundg (Mi - (k + 1))
                        case measure => have := HKM.out; omega
                        case rel => exact ⟨k + 1, rfl, HKM.out, by go_num, rfl⟩
                      · have hkI : ¬ (k : Int) < (Mi : Int) := by omega
                        clear hk hkm
                        go_wp2_with fail
                        go_roundg (5 - (i + 1))
                        case measure => have := HI.out; omega
                        case rel => exact ⟨i + 1, rfl, HI.out, by go_num, rfl⟩
                · have hi5' : 5 = i := by omega
                  subst hi5'
                  clear hi hi5
                  go_upto_region 49 with fail
                  have hns : ∀ k, (k < lo 4 ∨ w9.heap.size ≤ k) → ¬ ∃ j, j < 5 ∧ (Value.slice (ad j) (M j) (cc j)).ownBlock = some k := fun k hk ⟨j, hj, e⟩ => by
                    have q1 := HBD.out j hj k e
                    have q2 := HTP2.out.2.2 j hj
                    omega
                  have P16 := P10.out.below B16.out
                  have TM := hid (show Tp (fun _ => False) wm t ((10000 : Nat) : Int) (all.length : Int) hv row from ⟨(HU.out.block t (blk_lt P16.tp.ht) (hns t (.inl HTP2.out.1))).trans P16.tp.ht, own_kept P16.tp.own (fun k hk => HU.out.block k (own_lt P16.tp.own k hk) (hns k (.inl (HTP2.out.2.1 k hk)))), P16.tp.ne, fun x => x, fun _ _ x => x⟩)
                  have ow16 := ownV_below HOW.out B16.out
                  have HWV := hid (own_vinS (ownV_kept ow16 (w' := wm) fun k hk => HU.out.block k (ownV_lt ow16 k hk) (hns k (.inr (HNW.out k hk)))))
                  have HBM : Hid (Below w.heap.size w wm) := hid (by
                    have q1 := HW10.out.trans (B16.out.mono HW10.out.size)
                    exact q1.trans (HU.out.below (B := w.heap.size) q1.size fun k ⟨j, hj, e⟩ => Nat.le_trans (HTP2.out.2.2 j hj).2.1 (HBD.out j hj k e).1))
                  have HL3 := hid (list_any _ t _ _ _ _ _ TM.out (by have := P16.len; omega))
                  clear hns P16 ow16
                  go_wp2_with (first | (go_at_call 14; refine HL3.out.mono ?_; rintro e w17 ⟨vx, d3, rfl, hp3, hs3, hox, hnx, hb⟩; rw [HLS.out d3 hp3 hs3] at hox; obtain ⟨ax, cx, ex, hvx⟩ := own_vin hox; rw [HAS.out] at ex; subst ex; have q := same_eq ax aw cx cw (sortV A) w17 hvx (HWV.out.below hb) (by rw [HAS.out]; have := HK1.out; omega); rw [HAS.out] at q; have HQ9 := hid q; have HB17 := hid hb; have TM17 := hid (TM.out.below hb); clear hp3 hs3 hox hnx hb hvx q HL3) | (go_at_call 13; refine HQ9.out.mono ?_; rintro e w18 ⟨rfl, hb⟩; have HB18 := hid (HB17.out.trans (hb.mono HB17.out.size)); have hto := total_any _ t _ _ _ _ w18 (TM17.out.below hb); rw [HKA.out] at hto; have HTO := hid hto; clear hb hto HQ9) | (go_at_call 16; refine HTO.out.mono ?_; rintro e w19 ⟨rfl, h19⟩; rw [h19]; clear h19 w19 HTO))
                  go_ret
                  exact ⟨by simp, HBM.out.trans (HB18.out.mono HBM.out.size)⟩
end Go.Proofs.Ytgimpkbknaopcaa
