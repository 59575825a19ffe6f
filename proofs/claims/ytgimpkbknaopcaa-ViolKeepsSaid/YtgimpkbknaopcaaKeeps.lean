/- The walk of ViolKeeps. No statement is proved here. -/
import Derived.Test.YtgimpkbknaopcaaStG
import Derived.Test.YtgimpkbknaopcaaVZ
import Derived.Test.YtgimpkbknaopcaaVEq
set_option linter.unusedVariables false
set_option linter.unusedSimpArgs false
namespace Go.Proofs.Ytgimpkbknaopcaa
open Go.RowKit Go.Shelf Go.Lib
open Go.Sort hiding Below

theorem sortV_perm (l : List V) : (sortV l).Perm l := by
  have h1 := sort_map _ (ptsOf 0 l) (Nat.le_refl _)
  rw [ptsOf_map] at h1
  rw [h1]
  have h2 := (sort_perm _ (ptsOf 0 l) (Nat.le_refl _)).map (·.v)
  rw [ptsOf_map] at h2
  exact h2
theorem sortV_sorted (l : List V) {i : Nat} (h0 : 0 < i) (h : i < (sortV l).length) : ¬ ltV (sortV l)[i] ((sortV l)[i - 1]'(by omega)) := by
  have h1 := sort_map _ (ptsOf 0 l) (Nat.le_refl _)
  rw [ptsOf_map] at h1
  have hs := sort_sorted _ (ptsOf 0 l) (Nat.le_refl _) (ptsOf_asc l 0)
  have hl : (sortP (ptsOf 0 l)).length = (sortV l).length := by rw [h1, List.length_map]
  have hp := List.pairwise_iff_getElem.1 hs (i - 1) i (by omega) (by omega) (by omega)
  have e1 : (sortV l)[i] = ((sortP (ptsOf 0 l))[i]'(by omega)).v := by simp [h1]
  have e2 : (sortV l)[i - 1]'(by omega) = ((sortP (ptsOf 0 l))[i - 1]'(by omega)).v := by simp [h1]
  rw [e1, e2]
  unfold ltP ltV eqV at hp
  unfold ltV
  omega
theorem wrap_id {x : Int} (h1 : -9223372036854775808 ≤ x) (h2 : x ≤ 9223372036854775807) : IntKind.i64.wrap x = x := by rw [IntKind.wrap_i64]; omega
theorem count_le (f : V → Bool) (L : List V) (k : Nat) : (L.take k).countP f ≤ k := Nat.le_trans List.countP_le_length (by rw [List.length_take]; omega)
theorem count_step (f : V → Bool) (L : List V) {k : Nat} (h : k < L.length) : ((L.take (k + 1)).countP f : Int) = ((L.take k).countP f : Int) + (if f L[k] then 1 else 0) := by
  rw [List.take_succ_eq_append_getElem h, List.countP_append, List.countP_singleton]
  split <;> simp
set_option maxHeartbeats 8000000 in
set_option maxRecDepth 1000000 in
theorem keeps_walk (a : Option Addr) (cap : Nat) (l : List V) (w : World) (hin : VIn w a l) (hcap : l.length ≤ cap) (hnil : a = none → l = []) :
    Calls Try.prog 6 #[.slice a l.length cap] w fun e w' => e = .returned (.bool true) ∧ Below w.heap.size w w' := by
  have HA := hid (anchor_any w)
  obtain ⟨n, hn⟩ : ∃ n, n = l.length := ⟨_, rfl⟩
  have HN := hid hn
  have HIN := hid hin
  have HCP := hid hcap
  have HNIL := hid hnil
  by_cases hg : 300 < n
  · have h1I : (300 : Int) < (n : Int) := by omega
    rw [← hn]
    clear hn hin hcap hnil hg
    go_enter Try.func6, Try.ntmps6
    go_wp2_with (go_at_call 9; refine HA.out.mono ?_; rintro e w1 ⟨rfl, hb1⟩)
    go_ret
    exact ⟨rfl, hb1⟩
  have h1I : ¬ (300 : Int) < (n : Int) := by omega
  have HG := hid (show n ≤ 300 by omega)
  rw [← hn]
  clear hn hin hcap hnil hg
  go_enter Try.func6, Try.ntmps6
  go_upto_region 5 with (go_at_call 9; refine HA.out.mono ?_; rintro e w1 ⟨rfl, hb1⟩)
  obtain ⟨g, c, w2, hrun, hown, hgs, hbel⟩ := copy_viols (HIN.out.below hb1) cap (by rw [← HN.out]; have := HG.out; omega) HNIL.out
  rw [← HN.out] at hrun
  have hso := fun (aa : VIn w2 (some ⟨g, 0, none⟩) l) => vsort_any (some ⟨g, 0, none⟩) c l w2 aa (by rw [← HN.out]; have := HG.out; omega) (fun h => by cases h)
  obtain ⟨a2, c2, e2, hv2⟩ := own_vin hown
  obtain ⟨rfl, rfl⟩ : a2 = some ⟨g, 0, none⟩ ∧ c2 = c := by cases e2; exact ⟨rfl, rfl⟩
  have hso2 := hso hv2
  rw [← HN.out] at hso2
  have HSO := hid hso2
  have HB2 := hid (hb1.trans (hbel.mono hb1.size))
  clear hb1 hown hgs hbel hso hv2 e2 hso2 h1I HA
  go_upto_region 6 with (first | (at_builtin; refine wpList_append_run _ rfl (.tmp 13) (.tmp 14) 28 28 rfl _ _ rfl rfl hrun ?_) | (go_at_call 19; refine HSO.out.mono ?_; rintro e w3 ⟨v, rfl, ho3, hv3, hb3⟩; have HO3 := hid ho3; have HB3 := hid (HB2.out.trans (hb3.mono HB2.out.size)); clear ho3 hv3 hb3))
  clear hrun
  obtain ⟨sa, sc, hsv, hsin⟩ := own_vin HO3.out
  have hsl : (sortV l).length = n := by rw [(sortV_perm l).length_eq, HN.out]
  rw [hsl] at hsv
  subst hsv
  have HSL := hid hsl
  have HSI := hid hsin
  clear hsl hsin HO3 HSO
  go_wp2_with fail
  go_loopg [24] n (fun gh s24 wr => ∃ i : Nat, i ≤ n ∧ n - i = gh ∧ s24 = .int .i64 (i : Int) ∧ Hid (Below w3.heap.size w3 wr))
  case atStart => exact ⟨0, Nat.zero_le _, rfl, rfl, hid (Below.refl _ _)⟩
  case round =>
    obtain ⟨i, hi, rfl, rfl, HB⟩ := hrel
    by_cases hlt : i < n
    · have hiI : (i : Int) < (n : Int) := by omega
      have hil : i < (sortV l).length := by rw [HSL.out]; exact hlt
      have hne : sortV l ≠ [] := by intro h; rw [h] at hil; simp at hil
      obtain ⟨x, ox, hax, hxl, hxc⟩ := HSI.out hne
      subst hax
      have HXC := hid hxc
      have hx : ∀ j, j < 12 → wr.cell? ⟨x, ox + i * 12 + j, none⟩ = ((sortV l)[i]).cs[j]? := fun j hj => (HB.out.cell (p := ⟨x, ox + i * 12 + j, none⟩) hxl).trans (hxc i hil j hj)
      obtain ⟨v, hv⟩ : ∃ v, v = (sortV l)[i] := ⟨_, rfl⟩
      rw [← hv] at hx
      have x0 : wr.cell? ⟨x, ox + i * 12, none⟩ = some (.int .i64 v.kind) := hx 0 (by omega)
      have x1 : wr.cell? ⟨x, ox + i * 12 + 1, none⟩ = some (.int .i64 v.time) := hx 1 (by omega)
      have x2 : wr.cell? ⟨x, ox + i * 12 + 2, none⟩ = some (.int .i64 v.txn) := hx 2 (by omega)
      have x3 : wr.cell? ⟨x, ox + i * 12 + 3, none⟩ = some (.int .i64 v.op) := hx 3 (by omega)
      have x4 : wr.cell? ⟨x, ox + i * 12 + 4, none⟩ = some (.int .i64 v.wit) := hx 4 (by omega)
      have x5 : wr.cell? ⟨x, ox + i * 12 + 5, none⟩ = some (.string v.key) := hx 5 (by omega)
      have x6 : wr.cell? ⟨x, ox + i * 12 + 6, none⟩ = some (.bool v.want) := hx 6 (by omega)
      have x7 : wr.cell? ⟨x, ox + i * 12 + 7, none⟩ = some (.string v.exp) := hx 7 (by omega)
      have x8 : wr.cell? ⟨x, ox + i * 12 + 8, none⟩ = some (.bool v.got) := hx 8 (by omega)
      have x9 : wr.cell? ⟨x, ox + i * 12 + 9, none⟩ = some (.string v.obs) := hx 9 (by omega)
      have x10 : wr.cell? ⟨x, ox + i * 12 + 10, none⟩ = some (.int .i64 v.frm) := hx 10 (by omega)
      have x11 : wr.cell? ⟨x, ox + i * 12 + 11, none⟩ = some (.int .i64 v.to) := hx 11 (by omega)
      have HIL := hid (And.intro hlt hil)
      have HV := hid hv
      have HXL := hid hxl
      clear hx hxc hne hxl hi hlt hv
      go_upto_region 11 with fail
      clear x0 x1 x2 x3 x4 x5 x6 x7 x8 x9 x10 x11
      have hal := (Below.refl _ wr).alloc (Nat.le_refl _) (.cells #[.int .i64 v.kind, .int .i64 v.time, .int .i64 v.txn, .int .i64 v.op, .int .i64 v.wit, .string v.key, .bool v.want, .string v.exp, .bool v.got, .string v.obs, .int .i64 v.frm, .int .i64 v.to] 30)
      have X5 := heap_alloc_new wr (.cells #[.int .i64 v.kind, .int .i64 v.time, .int .i64 v.txn, .int .i64 v.op, .int .i64 v.wit, .string v.key, .bool v.want, .string v.exp, .bool v.got, .string v.obs, .int .i64 v.frm, .int .i64 v.to] 30)
      obtain ⟨w4, hw4⟩ : ∃ w4, wr.alloc (.cells #[.int .i64 v.kind, .int .i64 v.time, .int .i64 v.txn, .int .i64 v.op, .int .i64 v.wit, .string v.key, .bool v.want, .string v.exp, .bool v.got, .string v.obs, .int .i64 v.frm, .int .i64 v.to] 30) = w4 := ⟨_, rfl⟩
      obtain ⟨t5, ht5⟩ : ∃ t5, t5 = wr.heap.size := ⟨_, rfl⟩
      rw [hw4] at hal X5
      rw [← ht5] at X5
      rw [hw4, ← ht5]
      have HX5 := hid X5
      have HB4 := hid (HB.out.trans (hal.mono HB.out.size))
      clear hal X5 hw4 ht5
      have HQ : Hid (∀ (w5 : World), Below w4.heap.size w4 w5 → Below w3.heap.size w3 w5 ∧ w5.heap[t5]? = some (.cells #[.int .i64 v.kind, .int .i64 v.time, .int .i64 v.txn, .int .i64 v.op, .int .i64 v.wit, .string v.key, .bool v.want, .string v.exp, .bool v.got, .string v.obs, .int .i64 v.frm, .int .i64 v.to] 30 (0, 0))) := hid fun w5 hb => ⟨HB4.out.trans (hb.mono HB4.out.size), (hb.block t5 (blk_lt HX5.out)).trans HX5.out⟩
      have key : ∀ w5 : World, Below w4.heap.size w4 w5 → Hid (Below w3.heap.size w3 w5 ∧ w5.heap[t5]? = some (.cells #[.int .i64 v.kind, .int .i64 v.time, .int .i64 v.txn, .int .i64 v.op, .int .i64 v.wit, .string v.key, .bool v.want, .string v.exp, .bool v.got, .string v.obs, .int .i64 v.frm, .int .i64 v.to] 30 (0, 0))) := fun w5 hb => hid (HQ.out w5 hb)
      have KEY := hid key
      clear key HQ
      by_cases hi0 : i = 0
      · subst hi0
        go_upto_region 11 with fail
        go_quiet (fail)
        have HW5 : Hid (Below w4.heap.size w4 (w4.drewN nq)) := hid (_root_.Go.Proofs.Ytgimpkbknaopcaa.Below.drewN (Below.refl _ _) nq)
        generalize w4.drewN nq = w5 at HW5 ⊢
        have HQ5 : Hid (Below w3.heap.size w3 w5 ∧ w5.heap[t5]? = some (.cells #[.int .i64 v.kind, .int .i64 v.time, .int .i64 v.txn, .int .i64 v.op, .int .i64 v.wit, .string v.key, .bool v.want, .string v.exp, .bool v.got, .string v.obs, .int .i64 v.frm, .int .i64 v.to] 30 (0, 0))) := KEY.out w5 HW5.out
        clear KEY HW5
        have hb3w : Below w.heap.size w w5 := HB3.out.trans (HQ5.out.1.mono HB3.out.size)
        have HIW := hid (HIN.out.below hb3w)
        have HSW := hid (HSI.out.below HQ5.out.1)
        clear hb3w
        go_wp2_with fail
        go_loopg [6, 43] n (fun gh s6 s43 wr => ∃ (k : Nat) (cv : Int), k ≤ n ∧ n - k = gh ∧ s43 = .int .i64 (k : Int) ∧ s6 = .int .i64 cv ∧ Hid (cv = (((sortV l).take k).countP (eqVb v) : Int) - ((l.take k).countP (eqVb v) : Int) ∧ -300 ≤ cv ∧ cv ≤ 300) ∧ Hid (Below w5.heap.size w5 wr))
        case atStart => exact ⟨0, 0, Nat.zero_le _, rfl, rfl, rfl, hid ⟨by simp, by omega, by omega⟩, hid (Below.refl _ _)⟩
        case round =>
          obtain ⟨k, cv, hk, rfl, rfl, rfl, HCV, HB6⟩ := hrel
          by_cases hkn : k < n
          · have hkI : (k : Int) < (n : Int) := by omega
            have hkl : k < l.length := by rw [← HN.out]; exact hkn
            have hks : k < (sortV l).length := by rw [HSL.out]; exact hkn
            obtain ⟨y, oy, hay, hyl, hyc⟩ := (HIW.out.below HB6.out) (by intro h; rw [h] at hkl; simp at hkl)
            subst hay
            obtain ⟨x', ox', hax, hxl', hxc'⟩ := (HSW.out.below HB6.out) (by intro h; rw [h] at hks; simp at hks)
            cases hax
            have hx := hxc' k hks
            have hy := hyc k hkl
            have hz := (HB6.out.block t5 (blk_lt HQ5.out.2)).trans HQ5.out.2
            obtain ⟨p, hp⟩ : ∃ p, p = (sortV l)[k] := ⟨_, rfl⟩
            obtain ⟨q, hq⟩ : ∃ q, q = l[k] := ⟨_, rfl⟩
            rw [← hp] at hx
            rw [← hq] at hy
            have x0 : wr.cell? ⟨x, ox + k * 12, none⟩ = some (.int .i64 p.kind) := hx 0 (by omega)
            have x1 : wr.cell? ⟨x, ox + k * 12 + 1, none⟩ = some (.int .i64 p.time) := hx 1 (by omega)
            have x2 : wr.cell? ⟨x, ox + k * 12 + 2, none⟩ = some (.int .i64 p.txn) := hx 2 (by omega)
            have x3 : wr.cell? ⟨x, ox + k * 12 + 3, none⟩ = some (.int .i64 p.op) := hx 3 (by omega)
            have x4 : wr.cell? ⟨x, ox + k * 12 + 4, none⟩ = some (.int .i64 p.wit) := hx 4 (by omega)
            have x5 : wr.cell? ⟨x, ox + k * 12 + 5, none⟩ = some (.string p.key) := hx 5 (by omega)
            have x6 : wr.cell? ⟨x, ox + k * 12 + 6, none⟩ = some (.bool p.want) := hx 6 (by omega)
            have x7 : wr.cell? ⟨x, ox + k * 12 + 7, none⟩ = some (.string p.exp) := hx 7 (by omega)
            have x8 : wr.cell? ⟨x, ox + k * 12 + 8, none⟩ = some (.bool p.got) := hx 8 (by omega)
            have x9 : wr.cell? ⟨x, ox + k * 12 + 9, none⟩ = some (.string p.obs) := hx 9 (by omega)
            have x10 : wr.cell? ⟨x, ox + k * 12 + 10, none⟩ = some (.int .i64 p.frm) := hx 10 (by omega)
            have x11 : wr.cell? ⟨x, ox + k * 12 + 11, none⟩ = some (.int .i64 p.to) := hx 11 (by omega)
            have z0 : wr.cell? ⟨t5, 0, none⟩ = some (.int .i64 v.kind) := (blk_cell hz 0).trans rfl
            have z1 : wr.cell? ⟨t5, 1, none⟩ = some (.int .i64 v.time) := (blk_cell hz 1).trans rfl
            have z2 : wr.cell? ⟨t5, 2, none⟩ = some (.int .i64 v.txn) := (blk_cell hz 2).trans rfl
            have z3 : wr.cell? ⟨t5, 3, none⟩ = some (.int .i64 v.op) := (blk_cell hz 3).trans rfl
            have z4 : wr.cell? ⟨t5, 4, none⟩ = some (.int .i64 v.wit) := (blk_cell hz 4).trans rfl
            have z5 : wr.cell? ⟨t5, 5, none⟩ = some (.string v.key) := (blk_cell hz 5).trans rfl
            have z6 : wr.cell? ⟨t5, 6, none⟩ = some (.bool v.want) := (blk_cell hz 6).trans rfl
            have z7 : wr.cell? ⟨t5, 7, none⟩ = some (.string v.exp) := (blk_cell hz 7).trans rfl
            have z8 : wr.cell? ⟨t5, 8, none⟩ = some (.bool v.got) := (blk_cell hz 8).trans rfl
            have z9 : wr.cell? ⟨t5, 9, none⟩ = some (.string v.obs) := (blk_cell hz 9).trans rfl
            have z10 : wr.cell? ⟨t5, 10, none⟩ = some (.int .i64 v.frm) := (blk_cell hz 10).trans rfl
            have z11 : wr.cell? ⟨t5, 11, none⟩ = some (.int .i64 v.to) := (blk_cell hz 11).trans rfl
            obtain ⟨b1, hb1⟩ : ∃ b1, b1 = eqVb v p := ⟨_, rfl⟩
            have hE1 := fun W => eqV_run p v W
            rw [← hb1] at hE1
            have HY := hid hy
            have HYL := hid hyl
            have HZ := hid hz
            have HCT := hid (And.intro (count_step (eqVb v) (sortV l) hks) (count_step (eqVb v) l hkl))
            have HPQ := hid (And.intro hp (And.intro hq hb1))
            have HKN := hid hkn
            clear hx hy hyl hz hyc hxc' hxl' hk hkn hb1 hp hq
            go_upto_region 17 with fail
            go_quiet (fail)
            have HW7 : Hid (Below wr.heap.size wr (wr.drewN nq)) := hid (_root_.Go.Proofs.Ytgimpkbknaopcaa.Below.drewN (Below.refl _ _) nq)
            generalize wr.drewN nq = w7 at HW7 ⊢
            clear nq hE1 x0 x1 x2 x3 x4 x5 x6 x7 x8 x9 x10 x11 z0 z1 z2 z3 z4 z5 z6 z7 z8 z9 z10 z11
            have hy7 : ∀ j, j < 12 → w7.cell? ⟨y, oy + k * 12 + j, none⟩ = q.cs[j]? := fun j hj => (HW7.out.cell (p := ⟨y, oy + k * 12 + j, none⟩) HYL.out).trans (HY.out j hj)
            have hz7 := (HW7.out.block t5 (blk_lt HZ.out)).trans HZ.out
            have HB8 := hid (HB6.out.trans (HW7.out.mono HB6.out.size))
            have wc1 : IntKind.i64.wrap (cv + 1) = cv + 1 := by have := HCV.out; exact wrap_id (by omega) (by omega)
            obtain ⟨b2, hb2⟩ : ∃ b2, b2 = eqVb v q := ⟨_, rfl⟩
            have hE2 := fun W => eqV_run q v W
            rw [← hb2] at hE2
            have HB2' := hid hb2
            clear hb2
            cases b1 with
            | true =>
              have wc2 : IntKind.i64.wrap (cv + 1 - 1) = cv := by have := HCV.out; rw [Int.add_sub_cancel]; exact wrap_id (by omega) (by omega)
              have wc3 : IntKind.i64.wrap cv = cv := by have := HCV.out; exact wrap_id (by omega) (by omega)
              go_upto_region 19 with fail
              have y0 : w7.cell? ⟨y, oy + k * 12, none⟩ = some (.int .i64 q.kind) := hy7 0 (by omega)
              have y1 : w7.cell? ⟨y, oy + k * 12 + 1, none⟩ = some (.int .i64 q.time) := hy7 1 (by omega)
              have y2 : w7.cell? ⟨y, oy + k * 12 + 2, none⟩ = some (.int .i64 q.txn) := hy7 2 (by omega)
              have y3 : w7.cell? ⟨y, oy + k * 12 + 3, none⟩ = some (.int .i64 q.op) := hy7 3 (by omega)
              have y4 : w7.cell? ⟨y, oy + k * 12 + 4, none⟩ = some (.int .i64 q.wit) := hy7 4 (by omega)
              have y5 : w7.cell? ⟨y, oy + k * 12 + 5, none⟩ = some (.string q.key) := hy7 5 (by omega)
              have y6 : w7.cell? ⟨y, oy + k * 12 + 6, none⟩ = some (.bool q.want) := hy7 6 (by omega)
              have y7 : w7.cell? ⟨y, oy + k * 12 + 7, none⟩ = some (.string q.exp) := hy7 7 (by omega)
              have y8 : w7.cell? ⟨y, oy + k * 12 + 8, none⟩ = some (.bool q.got) := hy7 8 (by omega)
              have y9 : w7.cell? ⟨y, oy + k * 12 + 9, none⟩ = some (.string q.obs) := hy7 9 (by omega)
              have y10 : w7.cell? ⟨y, oy + k * 12 + 10, none⟩ = some (.int .i64 q.frm) := hy7 10 (by omega)
              have y11 : w7.cell? ⟨y, oy + k * 12 + 11, none⟩ = some (.int .i64 q.to) := hy7 11 (by omega)
              have z0 : w7.cell? ⟨t5, 0, none⟩ = some (.int .i64 v.kind) := (blk_cell hz7 0).trans rfl
              have z1 : w7.cell? ⟨t5, 1, none⟩ = some (.int .i64 v.time) := (blk_cell hz7 1).trans rfl
              have z2 : w7.cell? ⟨t5, 2, none⟩ = some (.int .i64 v.txn) := (blk_cell hz7 2).trans rfl
              have z3 : w7.cell? ⟨t5, 3, none⟩ = some (.int .i64 v.op) := (blk_cell hz7 3).trans rfl
              have z4 : w7.cell? ⟨t5, 4, none⟩ = some (.int .i64 v.wit) := (blk_cell hz7 4).trans rfl
              have z5 : w7.cell? ⟨t5, 5, none⟩ = some (.string v.key) := (blk_cell hz7 5).trans rfl
              have z6 : w7.cell? ⟨t5, 6, none⟩ = some (.bool v.want) := (blk_cell hz7 6).trans rfl
              have z7 : w7.cell? ⟨t5, 7, none⟩ = some (.string v.exp) := (blk_cell hz7 7).trans rfl
              have z8 : w7.cell? ⟨t5, 8, none⟩ = some (.bool v.got) := (blk_cell hz7 8).trans rfl
              have z9 : w7.cell? ⟨t5, 9, none⟩ = some (.string v.obs) := (blk_cell hz7 9).trans rfl
              have z10 : w7.cell? ⟨t5, 10, none⟩ = some (.int .i64 v.frm) := (blk_cell hz7 10).trans rfl
              have z11 : w7.cell? ⟨t5, 11, none⟩ = some (.int .i64 v.to) := (blk_cell hz7 11).trans rfl
              clear hy7 hz7
              go_quiet (fail)
              have HW9 : Hid (Below w7.heap.size w7 (w7.drewN nq)) := hid (_root_.Go.Proofs.Ytgimpkbknaopcaa.Below.drewN (Below.refl _ _) nq)
              generalize w7.drewN nq = w9 at HW9 ⊢
              clear nq hE2 y0 y1 y2 y3 y4 y5 y6 y7 y8 y9 y10 y11 z0 z1 z2 z3 z4 z5 z6 z7 z8 z9 z10 z11
              have HB9 := hid (HB8.out.trans (HW9.out.mono HB8.out.size))
              cases b2 with
              | true =>
                go_wp2_with fail
                go_roundg (n - (k + 1))
                case measure => have := HKN.out; omega
                case rel => exact ⟨k + 1, cv, HKN.out, rfl, by go_num, rfl, hid (by
                  have h1 := HCT.out.1
                  have h2 := HCT.out.2
                  rw [← HPQ.out.1, ← HPQ.out.2.2] at h1
                  rw [← HPQ.out.2.1, ← HB2'.out] at h2
                  have h3 := HCV.out
                  have h4 := HG.out
                  have h5 := HKN.out
                  have h6 := count_le (eqVb v) (sortV l) (k + 1)
                  have h7 := count_le (eqVb v) l (k + 1)
                  simp at h1 h2
                  omega), HB9⟩
              | false =>
                go_wp2_with fail
                go_roundg (n - (k + 1))
                case measure => have := HKN.out; omega
                case rel => exact ⟨k + 1, cv + 1, HKN.out, rfl, by go_num, rfl, hid (by
                  have h1 := HCT.out.1
                  have h2 := HCT.out.2
                  rw [← HPQ.out.1, ← HPQ.out.2.2] at h1
                  rw [← HPQ.out.2.1, ← HB2'.out] at h2
                  have h3 := HCV.out
                  have h4 := HG.out
                  have h5 := HKN.out
                  have h6 := count_le (eqVb v) (sortV l) (k + 1)
                  have h7 := count_le (eqVb v) l (k + 1)
                  simp at h1 h2
                  omega), HB9⟩
            | false =>
              have wc2 : IntKind.i64.wrap (cv - 1) = cv - 1 := by have := HCV.out; exact wrap_id (by omega) (by omega)
              go_upto_region 19 with fail
              have y0 : w7.cell? ⟨y, oy + k * 12, none⟩ = some (.int .i64 q.kind) := hy7 0 (by omega)
              have y1 : w7.cell? ⟨y, oy + k * 12 + 1, none⟩ = some (.int .i64 q.time) := hy7 1 (by omega)
              have y2 : w7.cell? ⟨y, oy + k * 12 + 2, none⟩ = some (.int .i64 q.txn) := hy7 2 (by omega)
              have y3 : w7.cell? ⟨y, oy + k * 12 + 3, none⟩ = some (.int .i64 q.op) := hy7 3 (by omega)
              have y4 : w7.cell? ⟨y, oy + k * 12 + 4, none⟩ = some (.int .i64 q.wit) := hy7 4 (by omega)
              have y5 : w7.cell? ⟨y, oy + k * 12 + 5, none⟩ = some (.string q.key) := hy7 5 (by omega)
              have y6 : w7.cell? ⟨y, oy + k * 12 + 6, none⟩ = some (.bool q.want) := hy7 6 (by omega)
              have y7 : w7.cell? ⟨y, oy + k * 12 + 7, none⟩ = some (.string q.exp) := hy7 7 (by omega)
              have y8 : w7.cell? ⟨y, oy + k * 12 + 8, none⟩ = some (.bool q.got) := hy7 8 (by omega)
              have y9 : w7.cell? ⟨y, oy + k * 12 + 9, none⟩ = some (.string q.obs) := hy7 9 (by omega)
              have y10 : w7.cell? ⟨y, oy + k * 12 + 10, none⟩ = some (.int .i64 q.frm) := hy7 10 (by omega)
              have y11 : w7.cell? ⟨y, oy + k * 12 + 11, none⟩ = some (.int .i64 q.to) := hy7 11 (by omega)
              have z0 : w7.cell? ⟨t5, 0, none⟩ = some (.int .i64 v.kind) := (blk_cell hz7 0).trans rfl
              have z1 : w7.cell? ⟨t5, 1, none⟩ = some (.int .i64 v.time) := (blk_cell hz7 1).trans rfl
              have z2 : w7.cell? ⟨t5, 2, none⟩ = some (.int .i64 v.txn) := (blk_cell hz7 2).trans rfl
              have z3 : w7.cell? ⟨t5, 3, none⟩ = some (.int .i64 v.op) := (blk_cell hz7 3).trans rfl
              have z4 : w7.cell? ⟨t5, 4, none⟩ = some (.int .i64 v.wit) := (blk_cell hz7 4).trans rfl
              have z5 : w7.cell? ⟨t5, 5, none⟩ = some (.string v.key) := (blk_cell hz7 5).trans rfl
              have z6 : w7.cell? ⟨t5, 6, none⟩ = some (.bool v.want) := (blk_cell hz7 6).trans rfl
              have z7 : w7.cell? ⟨t5, 7, none⟩ = some (.string v.exp) := (blk_cell hz7 7).trans rfl
              have z8 : w7.cell? ⟨t5, 8, none⟩ = some (.bool v.got) := (blk_cell hz7 8).trans rfl
              have z9 : w7.cell? ⟨t5, 9, none⟩ = some (.string v.obs) := (blk_cell hz7 9).trans rfl
              have z10 : w7.cell? ⟨t5, 10, none⟩ = some (.int .i64 v.frm) := (blk_cell hz7 10).trans rfl
              have z11 : w7.cell? ⟨t5, 11, none⟩ = some (.int .i64 v.to) := (blk_cell hz7 11).trans rfl
              clear hy7 hz7
              go_quiet (fail)
              have HW9 : Hid (Below w7.heap.size w7 (w7.drewN nq)) := hid (_root_.Go.Proofs.Ytgimpkbknaopcaa.Below.drewN (Below.refl _ _) nq)
              generalize w7.drewN nq = w9 at HW9 ⊢
              clear nq hE2 y0 y1 y2 y3 y4 y5 y6 y7 y8 y9 y10 y11 z0 z1 z2 z3 z4 z5 z6 z7 z8 z9 z10 z11
              have HB9 := hid (HB8.out.trans (HW9.out.mono HB8.out.size))
              cases b2 with
              | true =>
                go_wp2_with fail
                go_roundg (n - (k + 1))
                case measure => have := HKN.out; omega
                case rel => exact ⟨k + 1, cv - 1, HKN.out, rfl, by go_num, rfl, hid (by
                  have h1 := HCT.out.1
                  have h2 := HCT.out.2
                  rw [← HPQ.out.1, ← HPQ.out.2.2] at h1
                  rw [← HPQ.out.2.1, ← HB2'.out] at h2
                  have h3 := HCV.out
                  have h4 := HG.out
                  have h5 := HKN.out
                  have h6 := count_le (eqVb v) (sortV l) (k + 1)
                  have h7 := count_le (eqVb v) l (k + 1)
                  simp at h1 h2
                  omega), HB9⟩
              | false =>
                go_wp2_with fail
                go_roundg (n - (k + 1))
                case measure => have := HKN.out; omega
                case rel => exact ⟨k + 1, cv, HKN.out, rfl, by go_num, rfl, hid (by
                  have h1 := HCT.out.1
                  have h2 := HCT.out.2
                  rw [← HPQ.out.1, ← HPQ.out.2.2] at h1
                  rw [← HPQ.out.2.1, ← HB2'.out] at h2
                  have h3 := HCV.out
                  have h4 := HG.out
                  have h5 := HKN.out
                  have h6 := count_le (eqVb v) (sortV l) (k + 1)
                  have h7 := count_le (eqVb v) l (k + 1)
                  simp at h1 h2
                  omega), HB9⟩
          · have hkI : ¬ (k : Int) < (n : Int) := by omega
            have hke : k = n := by omega
            have hcv0 : cv = 0 := by
              have h := HCV.out.1
              rw [hke, List.take_of_length_le (by rw [HSL.out]; exact Nat.le_refl _), List.take_of_length_le (by rw [← HN.out]; exact Nat.le_refl _), (sortV_perm l).countP_eq] at h
              omega
            subst hcv0
            clear hke hk hkn
            go_wp2_with fail
            go_roundg (n - (0 + 1))
            case measure => have := HIL.out.1; omega
            case rel => exact ⟨0 + 1, HIL.out.1, rfl, by go_num, hid (HQ5.out.1.trans (HB6.out.mono HQ5.out.1.size))⟩
      · have hi0I : (0 : Int) < (i : Int) := by omega
        have hi0N : 0 < i := by omega
        obtain ⟨i1, hi1⟩ : ∃ i1, i1 = i - 1 := ⟨_, rfl⟩
        have wi1 : IntKind.i64.wrap ((i : Int) - 1) = (i1 : Int) := by rw [IntKind.wrap_i64]; have := HG.out; have := HIL.out.1; omega
        have hi1n : i1 < n := by have := HIL.out.1; omega
        have hi1I : (i1 : Int) < (n : Int) := by omega
        have hi1l : i1 < (sortV l).length := by omega
        obtain ⟨u, hu⟩ : ∃ u, u = (sortV l)[i1] := ⟨_, rfl⟩
        have hx : ∀ j, j < 12 → w4.cell? ⟨x, ox + i1 * 12 + j, none⟩ = u.cs[j]? := fun j hj => by rw [hu]; exact (HB4.out.cell (p := ⟨x, ox + i1 * 12 + j, none⟩) HXL.out).trans (HXC.out i1 hi1l j hj)
        have hxl4 : x < w4.heap.size := Nat.lt_of_lt_of_le HXL.out HB4.out.size
        have hcm : ¬ 0 < cmpV u v := by
          rw [cmpV_pos, hu, HV.out]
          have := sortV_sorted l (i := i) (by omega) hil
          have e : i - 1 = i1 := hi1.symm
          simp only [e] at this
          exact this
        have hcd : decide (0 < cmpV u v) = false := decide_eq_false hcm
        have mixed := mixedT
        have y0 := fun n os => cell_grown (a := ⟨x, ox + i1 * 12, none⟩) hxl4 (hx 0 (by omega) : w4.cell? _ = some (.int .i64 u.kind)) n os
        have y1 := fun n os => cell_grown (a := ⟨x, ox + i1 * 12 + 1, none⟩) hxl4 (hx 1 (by omega) : w4.cell? _ = some (.int .i64 u.time)) n os
        have y2 := fun n os => cell_grown (a := ⟨x, ox + i1 * 12 + 2, none⟩) hxl4 (hx 2 (by omega) : w4.cell? _ = some (.int .i64 u.txn)) n os
        have y3 := fun n os => cell_grown (a := ⟨x, ox + i1 * 12 + 3, none⟩) hxl4 (hx 3 (by omega) : w4.cell? _ = some (.int .i64 u.op)) n os
        have y4 := fun n os => cell_grown (a := ⟨x, ox + i1 * 12 + 4, none⟩) hxl4 (hx 4 (by omega) : w4.cell? _ = some (.int .i64 u.wit)) n os
        have y5 := fun n os => cell_grown (a := ⟨x, ox + i1 * 12 + 5, none⟩) hxl4 (hx 5 (by omega) : w4.cell? _ = some (.string u.key)) n os
        have y6 := fun n os => cell_grown (a := ⟨x, ox + i1 * 12 + 6, none⟩) hxl4 (hx 6 (by omega) : w4.cell? _ = some (.bool u.want)) n os
        have y7 := fun n os => cell_grown (a := ⟨x, ox + i1 * 12 + 7, none⟩) hxl4 (hx 7 (by omega) : w4.cell? _ = some (.string u.exp)) n os
        have y8 := fun n os => cell_grown (a := ⟨x, ox + i1 * 12 + 8, none⟩) hxl4 (hx 8 (by omega) : w4.cell? _ = some (.bool u.got)) n os
        have y9 := fun n os => cell_grown (a := ⟨x, ox + i1 * 12 + 9, none⟩) hxl4 (hx 9 (by omega) : w4.cell? _ = some (.string u.obs)) n os
        have y10 := fun n os => cell_grown (a := ⟨x, ox + i1 * 12 + 10, none⟩) hxl4 (hx 10 (by omega) : w4.cell? _ = some (.int .i64 u.frm)) n os
        have y11 := fun n os => cell_grown (a := ⟨x, ox + i1 * 12 + 11, none⟩) hxl4 (hx 11 (by omega) : w4.cell? _ = some (.int .i64 u.to)) n os
        have z0 := fun n os => cell_grown (a := ⟨t5, 0, none⟩) (blk_lt HX5.out) (((blk_cell HX5.out 0).trans rfl) : w4.cell? _ = some (.int .i64 v.kind)) n os
        have z1 := fun n os => cell_grown (a := ⟨t5, 1, none⟩) (blk_lt HX5.out) (((blk_cell HX5.out 1).trans rfl) : w4.cell? _ = some (.int .i64 v.time)) n os
        have z2 := fun n os => cell_grown (a := ⟨t5, 2, none⟩) (blk_lt HX5.out) (((blk_cell HX5.out 2).trans rfl) : w4.cell? _ = some (.int .i64 v.txn)) n os
        have z3 := fun n os => cell_grown (a := ⟨t5, 3, none⟩) (blk_lt HX5.out) (((blk_cell HX5.out 3).trans rfl) : w4.cell? _ = some (.int .i64 v.op)) n os
        have z4 := fun n os => cell_grown (a := ⟨t5, 4, none⟩) (blk_lt HX5.out) (((blk_cell HX5.out 4).trans rfl) : w4.cell? _ = some (.int .i64 v.wit)) n os
        have z5 := fun n os => cell_grown (a := ⟨t5, 5, none⟩) (blk_lt HX5.out) (((blk_cell HX5.out 5).trans rfl) : w4.cell? _ = some (.string v.key)) n os
        have z6 := fun n os => cell_grown (a := ⟨t5, 6, none⟩) (blk_lt HX5.out) (((blk_cell HX5.out 6).trans rfl) : w4.cell? _ = some (.bool v.want)) n os
        have z7 := fun n os => cell_grown (a := ⟨t5, 7, none⟩) (blk_lt HX5.out) (((blk_cell HX5.out 7).trans rfl) : w4.cell? _ = some (.string v.exp)) n os
        have z8 := fun n os => cell_grown (a := ⟨t5, 8, none⟩) (blk_lt HX5.out) (((blk_cell HX5.out 8).trans rfl) : w4.cell? _ = some (.bool v.got)) n os
        have z9 := fun n os => cell_grown (a := ⟨t5, 9, none⟩) (blk_lt HX5.out) (((blk_cell HX5.out 9).trans rfl) : w4.cell? _ = some (.string v.obs)) n os
        have z10 := fun n os => cell_grown (a := ⟨t5, 10, none⟩) (blk_lt HX5.out) (((blk_cell HX5.out 10).trans rfl) : w4.cell? _ = some (.int .i64 v.frm)) n os
        have z11 := fun n os => cell_grown (a := ⟨t5, 11, none⟩) (blk_lt HX5.out) (((blk_cell HX5.out 11).trans rfl) : w4.cell? _ = some (.int .i64 v.to)) n os
        have hc : ∀ W : World, Calls Try.prog 17 #[u.agg, v.agg] W fun e w' => e = .returned (.int .i64 (cmpV u v)) ∧ Laid W w' := fun W => compare_any u v W
        have HC := hid hc
        generalize cmpV u v = cc at *
        clear hc hx hxl4 hu hi1 hi1l hi1n hi0
        go_upto_region 11 with fail
        go_quiet_grown (first | (go_at_call 17; refine Calls.grown_of (HC.out _)))
        have HW5 : Hid (Below w4.heap.size w4 (Go.Sort.grow (w4.drewN nq) osq)) := hid (Laid.below ⟨nq, osq, rfl⟩)
        clear HC y0 y1 y2 y3 y4 y5 y6 y7 y8 y9 y10 y11 z0 z1 z2 z3 z4 z5 z6 z7 z8 z9 z10 z11
        generalize Go.Sort.grow (w4.drewN nq) osq = w5 at HW5 ⊢
        have HQ5 : Hid (Below w3.heap.size w3 w5 ∧ w5.heap[t5]? = some (.cells #[.int .i64 v.kind, .int .i64 v.time, .int .i64 v.txn, .int .i64 v.op, .int .i64 v.wit, .string v.key, .bool v.want, .string v.exp, .bool v.got, .string v.obs, .int .i64 v.frm, .int .i64 v.to] 30 (0, 0))) := KEY.out w5 HW5.out
        clear KEY HW5
        have hb3w : Below w.heap.size w w5 := HB3.out.trans (HQ5.out.1.mono HB3.out.size)
        have HIW := hid (HIN.out.below hb3w)
        have HSW := hid (HSI.out.below HQ5.out.1)
        clear hb3w
        go_wp2_with fail
        go_loopg [6, 43] n (fun gh s6 s43 wr => ∃ (k : Nat) (cv : Int), k ≤ n ∧ n - k = gh ∧ s43 = .int .i64 (k : Int) ∧ s6 = .int .i64 cv ∧ Hid (cv = (((sortV l).take k).countP (eqVb v) : Int) - ((l.take k).countP (eqVb v) : Int) ∧ -300 ≤ cv ∧ cv ≤ 300) ∧ Hid (Below w5.heap.size w5 wr))
        case atStart => exact ⟨0, 0, Nat.zero_le _, rfl, rfl, rfl, hid ⟨by simp, by omega, by omega⟩, hid (Below.refl _ _)⟩
        case round =>
          obtain ⟨k, cv, hk, rfl, rfl, rfl, HCV, HB6⟩ := hrel
          by_cases hkn : k < n
          · have hkI : (k : Int) < (n : Int) := by omega
            have hkl : k < l.length := by rw [← HN.out]; exact hkn
            have hks : k < (sortV l).length := by rw [HSL.out]; exact hkn
            obtain ⟨y, oy, hay, hyl, hyc⟩ := (HIW.out.below HB6.out) (by intro h; rw [h] at hkl; simp at hkl)
            subst hay
            obtain ⟨x', ox', hax, hxl', hxc'⟩ := (HSW.out.below HB6.out) (by intro h; rw [h] at hks; simp at hks)
            cases hax
            have hx := hxc' k hks
            have hy := hyc k hkl
            have hz := (HB6.out.block t5 (blk_lt HQ5.out.2)).trans HQ5.out.2
            obtain ⟨p, hp⟩ : ∃ p, p = (sortV l)[k] := ⟨_, rfl⟩
            obtain ⟨q, hq⟩ : ∃ q, q = l[k] := ⟨_, rfl⟩
            rw [← hp] at hx
            rw [← hq] at hy
            have x0 : wr.cell? ⟨x, ox + k * 12, none⟩ = some (.int .i64 p.kind) := hx 0 (by omega)
            have x1 : wr.cell? ⟨x, ox + k * 12 + 1, none⟩ = some (.int .i64 p.time) := hx 1 (by omega)
            have x2 : wr.cell? ⟨x, ox + k * 12 + 2, none⟩ = some (.int .i64 p.txn) := hx 2 (by omega)
            have x3 : wr.cell? ⟨x, ox + k * 12 + 3, none⟩ = some (.int .i64 p.op) := hx 3 (by omega)
            have x4 : wr.cell? ⟨x, ox + k * 12 + 4, none⟩ = some (.int .i64 p.wit) := hx 4 (by omega)
            have x5 : wr.cell? ⟨x, ox + k * 12 + 5, none⟩ = some (.string p.key) := hx 5 (by omega)
            have x6 : wr.cell? ⟨x, ox + k * 12 + 6, none⟩ = some (.bool p.want) := hx 6 (by omega)
            have x7 : wr.cell? ⟨x, ox + k * 12 + 7, none⟩ = some (.string p.exp) := hx 7 (by omega)
            have x8 : wr.cell? ⟨x, ox + k * 12 + 8, none⟩ = some (.bool p.got) := hx 8 (by omega)
            have x9 : wr.cell? ⟨x, ox + k * 12 + 9, none⟩ = some (.string p.obs) := hx 9 (by omega)
            have x10 : wr.cell? ⟨x, ox + k * 12 + 10, none⟩ = some (.int .i64 p.frm) := hx 10 (by omega)
            have x11 : wr.cell? ⟨x, ox + k * 12 + 11, none⟩ = some (.int .i64 p.to) := hx 11 (by omega)
            have z0 : wr.cell? ⟨t5, 0, none⟩ = some (.int .i64 v.kind) := (blk_cell hz 0).trans rfl
            have z1 : wr.cell? ⟨t5, 1, none⟩ = some (.int .i64 v.time) := (blk_cell hz 1).trans rfl
            have z2 : wr.cell? ⟨t5, 2, none⟩ = some (.int .i64 v.txn) := (blk_cell hz 2).trans rfl
            have z3 : wr.cell? ⟨t5, 3, none⟩ = some (.int .i64 v.op) := (blk_cell hz 3).trans rfl
            have z4 : wr.cell? ⟨t5, 4, none⟩ = some (.int .i64 v.wit) := (blk_cell hz 4).trans rfl
            have z5 : wr.cell? ⟨t5, 5, none⟩ = some (.string v.key) := (blk_cell hz 5).trans rfl
            have z6 : wr.cell? ⟨t5, 6, none⟩ = some (.bool v.want) := (blk_cell hz 6).trans rfl
            have z7 : wr.cell? ⟨t5, 7, none⟩ = some (.string v.exp) := (blk_cell hz 7).trans rfl
            have z8 : wr.cell? ⟨t5, 8, none⟩ = some (.bool v.got) := (blk_cell hz 8).trans rfl
            have z9 : wr.cell? ⟨t5, 9, none⟩ = some (.string v.obs) := (blk_cell hz 9).trans rfl
            have z10 : wr.cell? ⟨t5, 10, none⟩ = some (.int .i64 v.frm) := (blk_cell hz 10).trans rfl
            have z11 : wr.cell? ⟨t5, 11, none⟩ = some (.int .i64 v.to) := (blk_cell hz 11).trans rfl
            obtain ⟨b1, hb1⟩ : ∃ b1, b1 = eqVb v p := ⟨_, rfl⟩
            have hE1 := fun W => eqV_run p v W
            rw [← hb1] at hE1
            have HY := hid hy
            have HYL := hid hyl
            have HZ := hid hz
            have HCT := hid (And.intro (count_step (eqVb v) (sortV l) hks) (count_step (eqVb v) l hkl))
            have HPQ := hid (And.intro hp (And.intro hq hb1))
            have HKN := hid hkn
            clear hx hy hyl hz hyc hxc' hxl' hk hkn hb1 hp hq
            go_upto_region 17 with fail
            go_quiet (fail)
            have HW7 : Hid (Below wr.heap.size wr (wr.drewN nq)) := hid (_root_.Go.Proofs.Ytgimpkbknaopcaa.Below.drewN (Below.refl _ _) nq)
            generalize wr.drewN nq = w7 at HW7 ⊢
            clear nq hE1 x0 x1 x2 x3 x4 x5 x6 x7 x8 x9 x10 x11 z0 z1 z2 z3 z4 z5 z6 z7 z8 z9 z10 z11
            have hy7 : ∀ j, j < 12 → w7.cell? ⟨y, oy + k * 12 + j, none⟩ = q.cs[j]? := fun j hj => (HW7.out.cell (p := ⟨y, oy + k * 12 + j, none⟩) HYL.out).trans (HY.out j hj)
            have hz7 := (HW7.out.block t5 (blk_lt HZ.out)).trans HZ.out
            have HB8 := hid (HB6.out.trans (HW7.out.mono HB6.out.size))
            have wc1 : IntKind.i64.wrap (cv + 1) = cv + 1 := by have := HCV.out; exact wrap_id (by omega) (by omega)
            obtain ⟨b2, hb2⟩ : ∃ b2, b2 = eqVb v q := ⟨_, rfl⟩
            have hE2 := fun W => eqV_run q v W
            rw [← hb2] at hE2
            have HB2' := hid hb2
            clear hb2
            cases b1 with
            | true =>
              have wc2 : IntKind.i64.wrap (cv + 1 - 1) = cv := by have := HCV.out; rw [Int.add_sub_cancel]; exact wrap_id (by omega) (by omega)
              have wc3 : IntKind.i64.wrap cv = cv := by have := HCV.out; exact wrap_id (by omega) (by omega)
              go_upto_region 19 with fail
              have y0 : w7.cell? ⟨y, oy + k * 12, none⟩ = some (.int .i64 q.kind) := hy7 0 (by omega)
              have y1 : w7.cell? ⟨y, oy + k * 12 + 1, none⟩ = some (.int .i64 q.time) := hy7 1 (by omega)
              have y2 : w7.cell? ⟨y, oy + k * 12 + 2, none⟩ = some (.int .i64 q.txn) := hy7 2 (by omega)
              have y3 : w7.cell? ⟨y, oy + k * 12 + 3, none⟩ = some (.int .i64 q.op) := hy7 3 (by omega)
              have y4 : w7.cell? ⟨y, oy + k * 12 + 4, none⟩ = some (.int .i64 q.wit) := hy7 4 (by omega)
              have y5 : w7.cell? ⟨y, oy + k * 12 + 5, none⟩ = some (.string q.key) := hy7 5 (by omega)
              have y6 : w7.cell? ⟨y, oy + k * 12 + 6, none⟩ = some (.bool q.want) := hy7 6 (by omega)
              have y7 : w7.cell? ⟨y, oy + k * 12 + 7, none⟩ = some (.string q.exp) := hy7 7 (by omega)
              have y8 : w7.cell? ⟨y, oy + k * 12 + 8, none⟩ = some (.bool q.got) := hy7 8 (by omega)
              have y9 : w7.cell? ⟨y, oy + k * 12 + 9, none⟩ = some (.string q.obs) := hy7 9 (by omega)
              have y10 : w7.cell? ⟨y, oy + k * 12 + 10, none⟩ = some (.int .i64 q.frm) := hy7 10 (by omega)
              have y11 : w7.cell? ⟨y, oy + k * 12 + 11, none⟩ = some (.int .i64 q.to) := hy7 11 (by omega)
              have z0 : w7.cell? ⟨t5, 0, none⟩ = some (.int .i64 v.kind) := (blk_cell hz7 0).trans rfl
              have z1 : w7.cell? ⟨t5, 1, none⟩ = some (.int .i64 v.time) := (blk_cell hz7 1).trans rfl
              have z2 : w7.cell? ⟨t5, 2, none⟩ = some (.int .i64 v.txn) := (blk_cell hz7 2).trans rfl
              have z3 : w7.cell? ⟨t5, 3, none⟩ = some (.int .i64 v.op) := (blk_cell hz7 3).trans rfl
              have z4 : w7.cell? ⟨t5, 4, none⟩ = some (.int .i64 v.wit) := (blk_cell hz7 4).trans rfl
              have z5 : w7.cell? ⟨t5, 5, none⟩ = some (.string v.key) := (blk_cell hz7 5).trans rfl
              have z6 : w7.cell? ⟨t5, 6, none⟩ = some (.bool v.want) := (blk_cell hz7 6).trans rfl
              have z7 : w7.cell? ⟨t5, 7, none⟩ = some (.string v.exp) := (blk_cell hz7 7).trans rfl
              have z8 : w7.cell? ⟨t5, 8, none⟩ = some (.bool v.got) := (blk_cell hz7 8).trans rfl
              have z9 : w7.cell? ⟨t5, 9, none⟩ = some (.string v.obs) := (blk_cell hz7 9).trans rfl
              have z10 : w7.cell? ⟨t5, 10, none⟩ = some (.int .i64 v.frm) := (blk_cell hz7 10).trans rfl
              have z11 : w7.cell? ⟨t5, 11, none⟩ = some (.int .i64 v.to) := (blk_cell hz7 11).trans rfl
              clear hy7 hz7
              go_quiet (fail)
              have HW9 : Hid (Below w7.heap.size w7 (w7.drewN nq)) := hid (_root_.Go.Proofs.Ytgimpkbknaopcaa.Below.drewN (Below.refl _ _) nq)
              generalize w7.drewN nq = w9 at HW9 ⊢
              clear nq hE2 y0 y1 y2 y3 y4 y5 y6 y7 y8 y9 y10 y11 z0 z1 z2 z3 z4 z5 z6 z7 z8 z9 z10 z11
              have HB9 := hid (HB8.out.trans (HW9.out.mono HB8.out.size))
              cases b2 with
              | true =>
                go_wp2_with fail
                go_roundg (n - (k + 1))
                case measure => have := HKN.out; omega
                case rel => exact ⟨k + 1, cv, HKN.out, rfl, by go_num, rfl, hid (by
                  have h1 := HCT.out.1
                  have h2 := HCT.out.2
                  rw [← HPQ.out.1, ← HPQ.out.2.2] at h1
                  rw [← HPQ.out.2.1, ← HB2'.out] at h2
                  have h3 := HCV.out
                  have h4 := HG.out
                  have h5 := HKN.out
                  have h6 := count_le (eqVb v) (sortV l) (k + 1)
                  have h7 := count_le (eqVb v) l (k + 1)
                  simp at h1 h2
                  omega), HB9⟩
              | false =>
                go_wp2_with fail
                go_roundg (n - (k + 1))
                case measure => have := HKN.out; omega
                case rel => exact ⟨k + 1, cv + 1, HKN.out, rfl, by go_num, rfl, hid (by
                  have h1 := HCT.out.1
                  have h2 := HCT.out.2
                  rw [← HPQ.out.1, ← HPQ.out.2.2] at h1
                  rw [← HPQ.out.2.1, ← HB2'.out] at h2
                  have h3 := HCV.out
                  have h4 := HG.out
                  have h5 := HKN.out
                  have h6 := count_le (eqVb v) (sortV l) (k + 1)
                  have h7 := count_le (eqVb v) l (k + 1)
                  simp at h1 h2
                  omega), HB9⟩
            | false =>
              have wc2 : IntKind.i64.wrap (cv - 1) = cv - 1 := by have := HCV.out; exact wrap_id (by omega) (by omega)
              go_upto_region 19 with fail
              have y0 : w7.cell? ⟨y, oy + k * 12, none⟩ = some (.int .i64 q.kind) := hy7 0 (by omega)
              have y1 : w7.cell? ⟨y, oy + k * 12 + 1, none⟩ = some (.int .i64 q.time) := hy7 1 (by omega)
              have y2 : w7.cell? ⟨y, oy + k * 12 + 2, none⟩ = some (.int .i64 q.txn) := hy7 2 (by omega)
              have y3 : w7.cell? ⟨y, oy + k * 12 + 3, none⟩ = some (.int .i64 q.op) := hy7 3 (by omega)
              have y4 : w7.cell? ⟨y, oy + k * 12 + 4, none⟩ = some (.int .i64 q.wit) := hy7 4 (by omega)
              have y5 : w7.cell? ⟨y, oy + k * 12 + 5, none⟩ = some (.string q.key) := hy7 5 (by omega)
              have y6 : w7.cell? ⟨y, oy + k * 12 + 6, none⟩ = some (.bool q.want) := hy7 6 (by omega)
              have y7 : w7.cell? ⟨y, oy + k * 12 + 7, none⟩ = some (.string q.exp) := hy7 7 (by omega)
              have y8 : w7.cell? ⟨y, oy + k * 12 + 8, none⟩ = some (.bool q.got) := hy7 8 (by omega)
              have y9 : w7.cell? ⟨y, oy + k * 12 + 9, none⟩ = some (.string q.obs) := hy7 9 (by omega)
              have y10 : w7.cell? ⟨y, oy + k * 12 + 10, none⟩ = some (.int .i64 q.frm) := hy7 10 (by omega)
              have y11 : w7.cell? ⟨y, oy + k * 12 + 11, none⟩ = some (.int .i64 q.to) := hy7 11 (by omega)
              have z0 : w7.cell? ⟨t5, 0, none⟩ = some (.int .i64 v.kind) := (blk_cell hz7 0).trans rfl
              have z1 : w7.cell? ⟨t5, 1, none⟩ = some (.int .i64 v.time) := (blk_cell hz7 1).trans rfl
              have z2 : w7.cell? ⟨t5, 2, none⟩ = some (.int .i64 v.txn) := (blk_cell hz7 2).trans rfl
              have z3 : w7.cell? ⟨t5, 3, none⟩ = some (.int .i64 v.op) := (blk_cell hz7 3).trans rfl
              have z4 : w7.cell? ⟨t5, 4, none⟩ = some (.int .i64 v.wit) := (blk_cell hz7 4).trans rfl
              have z5 : w7.cell? ⟨t5, 5, none⟩ = some (.string v.key) := (blk_cell hz7 5).trans rfl
              have z6 : w7.cell? ⟨t5, 6, none⟩ = some (.bool v.want) := (blk_cell hz7 6).trans rfl
              have z7 : w7.cell? ⟨t5, 7, none⟩ = some (.string v.exp) := (blk_cell hz7 7).trans rfl
              have z8 : w7.cell? ⟨t5, 8, none⟩ = some (.bool v.got) := (blk_cell hz7 8).trans rfl
              have z9 : w7.cell? ⟨t5, 9, none⟩ = some (.string v.obs) := (blk_cell hz7 9).trans rfl
              have z10 : w7.cell? ⟨t5, 10, none⟩ = some (.int .i64 v.frm) := (blk_cell hz7 10).trans rfl
              have z11 : w7.cell? ⟨t5, 11, none⟩ = some (.int .i64 v.to) := (blk_cell hz7 11).trans rfl
              clear hy7 hz7
              go_quiet (fail)
              have HW9 : Hid (Below w7.heap.size w7 (w7.drewN nq)) := hid (_root_.Go.Proofs.Ytgimpkbknaopcaa.Below.drewN (Below.refl _ _) nq)
              generalize w7.drewN nq = w9 at HW9 ⊢
              clear nq hE2 y0 y1 y2 y3 y4 y5 y6 y7 y8 y9 y10 y11 z0 z1 z2 z3 z4 z5 z6 z7 z8 z9 z10 z11
              have HB9 := hid (HB8.out.trans (HW9.out.mono HB8.out.size))
              cases b2 with
              | true =>
                go_wp2_with fail
                go_roundg (n - (k + 1))
                case measure => have := HKN.out; omega
                case rel => exact ⟨k + 1, cv - 1, HKN.out, rfl, by go_num, rfl, hid (by
                  have h1 := HCT.out.1
                  have h2 := HCT.out.2
                  rw [← HPQ.out.1, ← HPQ.out.2.2] at h1
                  rw [← HPQ.out.2.1, ← HB2'.out] at h2
                  have h3 := HCV.out
                  have h4 := HG.out
                  have h5 := HKN.out
                  have h6 := count_le (eqVb v) (sortV l) (k + 1)
                  have h7 := count_le (eqVb v) l (k + 1)
                  simp at h1 h2
                  omega), HB9⟩
              | false =>
                go_wp2_with fail
                go_roundg (n - (k + 1))
                case measure => have := HKN.out; omega
                case rel => exact ⟨k + 1, cv, HKN.out, rfl, by go_num, rfl, hid (by
                  have h1 := HCT.out.1
                  have h2 := HCT.out.2
                  rw [← HPQ.out.1, ← HPQ.out.2.2] at h1
                  rw [← HPQ.out.2.1, ← HB2'.out] at h2
                  have h3 := HCV.out
                  have h4 := HG.out
                  have h5 := HKN.out
                  have h6 := count_le (eqVb v) (sortV l) (k + 1)
                  have h7 := count_le (eqVb v) l (k + 1)
                  simp at h1 h2
                  omega), HB9⟩
          · have hkI : ¬ (k : Int) < (n : Int) := by omega
            have hke : k = n := by omega
            have hcv0 : cv = 0 := by
              have h := HCV.out.1
              rw [hke, List.take_of_length_le (by rw [HSL.out]; exact Nat.le_refl _), List.take_of_length_le (by rw [← HN.out]; exact Nat.le_refl _), (sortV_perm l).countP_eq] at h
              omega
            subst hcv0
            clear hke hk hkn
            go_wp2_with fail
            go_roundg (n - (i + 1))
            case measure => have := HIL.out.1; omega
            case rel => exact ⟨i + 1, HIL.out.1, rfl, by go_num, hid (HQ5.out.1.trans (HB6.out.mono HQ5.out.1.size))⟩
    · have hiI : ¬ (i : Int) < (n : Int) := by omega
      clear hi hlt
      go_wp2_with fail
      go_ret
      exact ⟨rfl, HB3.out.trans (HB.out.mono HB3.out.size)⟩
end Go.Proofs.Ytgimpkbknaopcaa
