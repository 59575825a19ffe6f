/- Tally. No statement is proved here. -/
import Derived.Test.YtgimpkbknaopcaaVY
set_option linter.unusedVariables false
set_option linter.unusedSimpArgs false
namespace Go.Proofs.Ytgimpkbknaopcaa
open Go.RowKit

/-- Where a violation is counted. -/
def clsV (v : V) : Nat := if 1 ≤ v.kind ∧ v.kind ≤ 10 then v.kind.toNat else 0
def tl (l : List V) (j : Nat) : Int := (l.countP fun v => clsV v == j : Nat)
def cellsT (l : List V) : Array Value := #[.int .i64 (tl l 0), .int .i64 (tl l 1), .int .i64 (tl l 2), .int .i64 (tl l 3), .int .i64 (tl l 4), .int .i64 (tl l 5), .int .i64 (tl l 6), .int .i64 (tl l 7), .int .i64 (tl l 8), .int .i64 (tl l 9), .int .i64 (tl l 10)]
theorem clsV_lt (v : V) : clsV v < 11 := by unfold clsV; split <;> omega
theorem tl_step (l : List V) {k : Nat} (h : k < l.length) (j : Nat) : tl (l.take (k + 1)) j = tl (l.take k) j + (if clsV l[k] = j then 1 else 0) := by
  unfold tl
  rw [List.take_succ_eq_append_getElem h, List.countP_append, List.countP_singleton]
  by_cases hc : clsV l[k] = j
  · simp [hc]
  · simp [hc]
theorem tl_le (l : List V) (k j : Nat) : 0 ≤ tl (l.take k) j ∧ tl (l.take k) j ≤ k := by
  have h := List.countP_le_length (p := fun v => clsV v == j) (l := l.take k)
  rw [List.length_take] at h
  unfold tl
  omega
theorem cellsT_step (l : List V) {k : Nat} (h : k < l.length) {j : Nat} (hj : clsV l[k] = j) : (cellsT (l.take k)).setIfInBounds j (.int .i64 (tl (l.take k) j + 1)) = cellsT (l.take (k + 1)) := by
  have hlt := clsV_lt l[k]
  rw [hj] at hlt
  have hs : ∀ i, tl (l.take (k + 1)) i = tl (l.take k) i + (if j = i then 1 else 0) := fun i => by rw [tl_step l h i, hj]
  unfold cellsT
  simp only [hs]
  match j, hlt with
  | 0, _ => simp
  | 1, _ => simp
  | 2, _ => simp
  | 3, _ => simp
  | 4, _ => simp
  | 5, _ => simp
  | 6, _ => simp
  | 7, _ => simp
  | 8, _ => simp
  | 9, _ => simp
  | 10, _ => simp
theorem cellsT_get (l : List V) {j : Nat} (hj : j < 11) : (cellsT l)[j]? = some (.int .i64 (tl l j)) := by
  unfold cellsT
  match j, hj with
  | 0, _ => rfl
  | 1, _ => rfl
  | 2, _ => rfl
  | 3, _ => rfl
  | 4, _ => rfl
  | 5, _ => rfl
  | 6, _ => rfl
  | 7, _ => rfl
  | 8, _ => rfl
  | 9, _ => rfl
  | 10, _ => rfl
theorem cellsT_all (l : List V) : (((((((((((cellsT []).setIfInBounds 0 (.int .i64 (tl l 0))).setIfInBounds 1 (.int .i64 (tl l 1))).setIfInBounds 2 (.int .i64 (tl l 2))).setIfInBounds 3 (.int .i64 (tl l 3))).setIfInBounds 4 (.int .i64 (tl l 4))).setIfInBounds 5 (.int .i64 (tl l 5))).setIfInBounds 6 (.int .i64 (tl l 6))).setIfInBounds 7 (.int .i64 (tl l 7))).setIfInBounds 8 (.int .i64 (tl l 8))).setIfInBounds 9 (.int .i64 (tl l 9))).setIfInBounds 10 (.int .i64 (tl l 10)) = cellsT l := by
  unfold cellsT
  simp
theorem inB_cls (v : V) : (inB v.kind 1 10 = true → clsV v = v.kind.toNat ∧ 1 ≤ v.kind ∧ v.kind ≤ 10) ∧ (inB v.kind 1 10 = false → clsV v = 0) := by
  unfold inB clsV
  constructor
  · intro h
    simp only [Bool.and_eq_true, decide_eq_true_eq] at h
    rw [if_pos h]
    exact ⟨rfl, h⟩
  · intro h
    rw [if_neg (fun hh => by simp [hh.1, hh.2] at h)]
set_option maxHeartbeats 4000000 in
set_option maxRecDepth 1000000 in
theorem tally_any (a : Option Addr) (cap : Nat) (l : List V) (w : World) (ha : VIn w a l) (hl : l.length ≤ 9000000000000) :
    Calls Try.prog 22 #[.slice a l.length cap] w fun e w' => e = .returned (.agg (cellsT l)) ∧ Below w.heap.size w w' := by
  obtain ⟨n, hn⟩ : ∃ n, n = l.length := ⟨_, rfl⟩
  rw [← hn]
  have HN := hid hn
  have HIN := hid ha
  have HL := hid hl
  clear hn ha hl
  go_enter Try.func22, Try.ntmps22
  go_wp2_with fail
  obtain ⟨w1, hw1⟩ : ∃ w1, (w.alloc (.cells #[.int .i64 0, .int .i64 0, .int .i64 0, .int .i64 0, .int .i64 0, .int .i64 0, .int .i64 0, .int .i64 0, .int .i64 0, .int .i64 0, .int .i64 0] 46)).alloc (.cells #[.int .i64 0, .int .i64 0, .int .i64 0, .int .i64 0, .int .i64 0, .int .i64 0, .int .i64 0, .int .i64 0, .int .i64 0, .int .i64 0, .int .i64 0] 46) = w1 := ⟨_, rfl⟩
  have B1 : Hid (Below w.heap.size w w1) := hid (by rw [← hw1]; exact ((Below.refl _ w).alloc (Nat.le_refl _) _).alloc (by simp) _)
  have R1 : Hid (w1.heap[w.heap.size]? = some (.cells (cellsT []) 46 (0, 0))) := hid (by rw [← hw1]; exact (Below.heap_alloc _ _ w.heap.size (by simp)).trans (heap_alloc_new w _))
  have T1 : Hid (w1.heap[w.heap.size + 1]? = some (.cells (cellsT (l.take 0)) 46 (0, 0))) := hid (by
    rw [← hw1]
    have := heap_alloc_new (w.alloc (.cells #[.int .i64 0, .int .i64 0, .int .i64 0, .int .i64 0, .int .i64 0, .int .i64 0, .int .i64 0, .int .i64 0, .int .i64 0, .int .i64 0, .int .i64 0] 46)) (.cells #[.int .i64 0, .int .i64 0, .int .i64 0, .int .i64 0, .int .i64 0, .int .i64 0, .int .i64 0, .int .i64 0, .int .i64 0, .int .i64 0, .int .i64 0] 46)
    rw [show (w.alloc (.cells #[.int .i64 0, .int .i64 0, .int .i64 0, .int .i64 0, .int .i64 0, .int .i64 0, .int .i64 0, .int .i64 0, .int .i64 0, .int .i64 0, .int .i64 0] 46)).heap.size = w.heap.size + 1 by simp] at this
    exact this)
  rw [hw1]
  obtain ⟨tb, htb⟩ : ∃ tb, w.heap.size + 1 = tb := ⟨_, rfl⟩
  obtain ⟨ra, hra⟩ : ∃ ra, w.heap.size = ra := ⟨_, rfl⟩
  rw [htb] at T1 ⊢
  have HNE : Hid (ra ≠ tb ∧ w.heap.size ≤ ra ∧ w.heap.size ≤ tb) := hid ⟨by omega, by omega, by omega⟩
  rw [hra] at R1
  conv =>
    arg 4
    rw [hra]
  clear hw1 htb hra
  go_loopg [8] n (fun gh s8 wr => ∃ i : Nat, i ≤ n ∧ n - i = gh ∧ s8 = .int .i64 (i : Int) ∧ Hid (Below w.heap.size w wr ∧ wr.heap[ra]? = some (.cells (cellsT []) 46 (0, 0)) ∧ wr.heap[tb]? = some (.cells (cellsT (l.take i)) 46 (0, 0))))
  case atStart => exact ⟨0, Nat.zero_le _, rfl, rfl, hid ⟨B1.out, R1.out, T1.out⟩⟩
  case round =>
    obtain ⟨i, hi, rfl, rfl, HR⟩ := hrel
    by_cases hlt : i < n
    · have hiI : (i : Int) < (n : Int) := by omega
      have hil : i < l.length := by rw [← HN.out]; exact hlt
      obtain ⟨x, ox, hax, hxl, hxc⟩ := (HIN.out.below HR.out.1) (by intro h; rw [h] at hil; simp at hil)
      subst hax
      have hx := hxc i hil
      obtain ⟨v, hv⟩ : ∃ v, v = l[i] := ⟨_, rfl⟩
      rw [← hv] at hx
      have x0 : wr.cell? ⟨x, ox + i * 12, none⟩ = some (.int .i64 v.kind) := hx 0 (by omega)
      have x1 : wr.cell? ⟨x, ox + i * 12 + 1, none⟩ = some (.int .i64 v.time) := hx 1 (by omega)
      have x2 : wr.cell? ⟨x, ox + i * 12 + 2, none⟩ = some (.int .i64 v.txn) := hx 2 (by omega)
      have x3 : wr.cell? ⟨x, ox + i * 12 + 3, none⟩ = some (.int .i64 v.op) := hx 3 (by omega)
      have x4 : wr.cell? ⟨x, ox + i * 12 + 4, none⟩ = some (.int .i64 v.wit) := hx 4 (by omega)
      have x5 : wr.cell? ⟨x, ox + i * 12 + 5, none⟩ = some (.string v.key) := hx 5 (by omega)
      have x6 : wr.cell? ⟨x, ox + i * 12 + 6, none⟩ = some (.bool v.want) := hx 6 (by omega)
      have x7 : wr.cell? ⟨x, ox + i * 12 + 7, none⟩ = some (.string v.exp) := hx 7 (by omega)
      have x8 : wr.cell? ⟨x, ox + i * 12 + 8, none⟩ = some (.bool v.got) := hx 8 (by omega)
      have x9 : wr.cell? ⟨x, ox + i * 12 + 9, none⟩ = some (.string v.obs) := hx 9 (by omega)
      have x10 : wr.cell? ⟨x, ox + i * 12 + 10, none⟩ = some (.int .i64 v.frm) := hx 10 (by omega)
      have x11 : wr.cell? ⟨x, ox + i * 12 + 11, none⟩ = some (.int .i64 v.to) := hx 11 (by omega)
      have HV := hid hv
      have HLT := hid hlt
      have wi : IntKind.i64.wrap ((i : Int) + 1) = (i : Int) + 1 := by rw [IntKind.wrap_i64]; have := HL.out; have := HN.out; omega
      clear hx hxc hxl hv hi hlt
      go_upto_region 5 with fail
      clear x0 x1 x2 x3 x4 x5 x6 x7 x8 x9 x10 x11
      have hal := (Below.refl _ wr).alloc (Nat.le_refl _) (.cells #[.int .i64 v.kind, .int .i64 v.time, .int .i64 v.txn, .int .i64 v.op, .int .i64 v.wit, .string v.key, .bool v.want, .string v.exp, .bool v.got, .string v.obs, .int .i64 v.frm, .int .i64 v.to] 30)
      have X5 := heap_alloc_new wr (.cells #[.int .i64 v.kind, .int .i64 v.time, .int .i64 v.txn, .int .i64 v.op, .int .i64 v.wit, .string v.key, .bool v.want, .string v.exp, .bool v.got, .string v.obs, .int .i64 v.frm, .int .i64 v.to] 30)
      obtain ⟨w5, hw5⟩ : ∃ w5, wr.alloc (.cells #[.int .i64 v.kind, .int .i64 v.time, .int .i64 v.txn, .int .i64 v.op, .int .i64 v.wit, .string v.key, .bool v.want, .string v.exp, .bool v.got, .string v.obs, .int .i64 v.frm, .int .i64 v.to] 30) = w5 := ⟨_, rfl⟩
      obtain ⟨t5, ht5⟩ : ∃ t5, t5 = wr.heap.size := ⟨_, rfl⟩
      rw [hw5] at hal X5
      rw [← ht5] at X5
      rw [hw5, ← ht5]
      have hb5 : Below w.heap.size w w5 := HR.out.1.trans (hal.mono HR.out.1.size)
      have hr5 := (hal.block ra (blk_lt HR.out.2.1)).trans HR.out.2.1
      have ht := (hal.block tb (blk_lt HR.out.2.2)).trans HR.out.2.2
      have k0 : w5.cell? ⟨t5, 0, none⟩ = some (.int .i64 v.kind) := (blk_cell X5 0).trans rfl
      have H5 := hid (And.intro hb5 (And.intro hr5 ht))
      have hwi := within_any v.kind 1 10 w5
      have hcl := inB_cls v
      clear hal X5 hw5 ht5 hb5 hr5 ht
      cases hB : inB v.kind 1 10 with
      | true =>
        rw [hB] at hwi
        have HWI := hid hwi
        obtain ⟨h1, h2, h3⟩ := hcl.1 hB
        obtain ⟨kk, hkk⟩ := Int.eq_ofNat_of_zero_le (show 0 ≤ v.kind by omega)
        have hkk11 : kk < 11 := by omega
        have HCL : Hid (clsV l[i] = kk) := hid (by rw [← HV.out, h1, hkk]; rfl)
        have hk0 : w5.cell? ⟨t5, 0, none⟩ = some (.int .i64 (kk : Int)) := by rw [k0, hkk]
        rw [hkk] at HWI
        have HK := hid hkk
        have hkkI : (kk : Int) < 11 := by omega
        obtain ⟨cc, hcc⟩ : ∃ cc, cc = tl (l.take i) kk := ⟨_, rfl⟩
        have ct : w5.cell? ⟨tb, kk, none⟩ = some (.int .i64 cc) := by rw [blk_cell H5.out.2.2, hcc]; exact cellsT_get _ hkk11
        have cf := blk_free H5.out.2.2 kk
        have wc : IntKind.i64.wrap (cc + 1) = cc + 1 := by
          have := tl_le l i kk
          have := HL.out
          rw [IntKind.wrap_i64]
          omega
        have HCC := hid hcc
        clear hwi hcl hB h1 h2 h3 k0 hkk hcc
        go_wp2_with (go_at_call 23; refine HWI.out.mono ?_; rintro e w6 ⟨rfl, h6⟩; rw [h6]; clear h6 w6)
        go_roundg (n - (i + 1))
        case measure => have := HLT.out; omega
        case rel => exact ⟨i + 1, HLT.out, rfl, by go_num, hid ⟨H5.out.1.setCell (p := ⟨tb, kk, none⟩) HNE.out.2.2 _, ((Upd.refl (fun k => k = tb) w5).setCell (p := ⟨tb, kk, none⟩) (fun _ => rfl) _).block ra (blk_lt H5.out.2.1) HNE.out.1 |>.trans H5.out.2.1, by
            have h := heap_setCell_same w5 tb kk _ _ (.int .i64 (cc + 1)) H5.out.2.2
            rw [h, HCC.out, cellsT_step l hil HCL.out]⟩⟩
      | false =>
        rw [hB] at hwi
        have HWI := hid hwi
        have HCL : Hid (clsV l[i] = 0) := hid (by rw [← HV.out]; exact hcl.2 hB)
        obtain ⟨cc, hcc⟩ : ∃ cc, cc = tl (l.take i) 0 := ⟨_, rfl⟩
        have ct : w5.cell? ⟨tb, 0, none⟩ = some (.int .i64 cc) := by rw [blk_cell H5.out.2.2, hcc]; exact cellsT_get _ (by omega)
        have cf := blk_free H5.out.2.2 0
        have wc : IntKind.i64.wrap (cc + 1) = cc + 1 := by
          have := tl_le l i 0
          have := HL.out
          rw [IntKind.wrap_i64]
          omega
        have HCC := hid hcc
        clear hwi hcl hB hcc
        go_wp2_with (go_at_call 23; refine HWI.out.mono ?_; rintro e w6 ⟨rfl, h6⟩; rw [h6]; clear h6 w6)
        go_roundg (n - (i + 1))
        case measure => have := HLT.out; omega
        case rel => exact ⟨i + 1, HLT.out, rfl, by go_num, hid ⟨H5.out.1.setCell (p := ⟨tb, 0, none⟩) HNE.out.2.2 _, ((Upd.refl (fun k => k = tb) w5).setCell (p := ⟨tb, 0, none⟩) (fun _ => rfl) _).block ra (blk_lt H5.out.2.1) HNE.out.1 |>.trans H5.out.2.1, by
            have h := heap_setCell_same w5 tb 0 _ _ (.int .i64 (cc + 1)) H5.out.2.2
            rw [h, HCC.out, cellsT_step l hil HCL.out]⟩⟩
    · have hie : ¬ (i : Int) < (n : Int) := by omega
      have hin : i = n := by omega
      have ht := HR.out.2.2
      rw [hin, List.take_of_length_le (by rw [← HN.out]; exact Nat.le_refl _)] at ht
      have hr := HR.out.2.1
      have HB := hid HR.out.1
      have c0 : wr.cell? ⟨tb, 0, none⟩ = some (.int .i64 (tl l 0)) := (blk_cell ht 0).trans rfl
      have c1 : wr.cell? ⟨tb, 1, none⟩ = some (.int .i64 (tl l 1)) := (blk_cell ht 1).trans rfl
      have c2 : wr.cell? ⟨tb, 2, none⟩ = some (.int .i64 (tl l 2)) := (blk_cell ht 2).trans rfl
      have c3 : wr.cell? ⟨tb, 3, none⟩ = some (.int .i64 (tl l 3)) := (blk_cell ht 3).trans rfl
      have c4 : wr.cell? ⟨tb, 4, none⟩ = some (.int .i64 (tl l 4)) := (blk_cell ht 4).trans rfl
      have c5 : wr.cell? ⟨tb, 5, none⟩ = some (.int .i64 (tl l 5)) := (blk_cell ht 5).trans rfl
      have c6 : wr.cell? ⟨tb, 6, none⟩ = some (.int .i64 (tl l 6)) := (blk_cell ht 6).trans rfl
      have c7 : wr.cell? ⟨tb, 7, none⟩ = some (.int .i64 (tl l 7)) := (blk_cell ht 7).trans rfl
      have c8 : wr.cell? ⟨tb, 8, none⟩ = some (.int .i64 (tl l 8)) := (blk_cell ht 8).trans rfl
      have c9 : wr.cell? ⟨tb, 9, none⟩ = some (.int .i64 (tl l 9)) := (blk_cell ht 9).trans rfl
      have c10 : wr.cell? ⟨tb, 10, none⟩ = some (.int .i64 (tl l 10)) := (blk_cell ht 10).trans rfl
      have d0 : wr.cell? ⟨ra, 0, none⟩ = some (.int .i64 (tl [] 0)) := (blk_cell hr 0).trans rfl
      have f0 := blk_free hr 0
      have d1 : wr.cell? ⟨ra, 1, none⟩ = some (.int .i64 (tl [] 1)) := (blk_cell hr 1).trans rfl
      have f1 := blk_free hr 1
      have d2 : wr.cell? ⟨ra, 2, none⟩ = some (.int .i64 (tl [] 2)) := (blk_cell hr 2).trans rfl
      have f2 := blk_free hr 2
      have d3 : wr.cell? ⟨ra, 3, none⟩ = some (.int .i64 (tl [] 3)) := (blk_cell hr 3).trans rfl
      have f3 := blk_free hr 3
      have d4 : wr.cell? ⟨ra, 4, none⟩ = some (.int .i64 (tl [] 4)) := (blk_cell hr 4).trans rfl
      have f4 := blk_free hr 4
      have d5 : wr.cell? ⟨ra, 5, none⟩ = some (.int .i64 (tl [] 5)) := (blk_cell hr 5).trans rfl
      have f5 := blk_free hr 5
      have d6 : wr.cell? ⟨ra, 6, none⟩ = some (.int .i64 (tl [] 6)) := (blk_cell hr 6).trans rfl
      have f6 := blk_free hr 6
      have d7 : wr.cell? ⟨ra, 7, none⟩ = some (.int .i64 (tl [] 7)) := (blk_cell hr 7).trans rfl
      have f7 := blk_free hr 7
      have d8 : wr.cell? ⟨ra, 8, none⟩ = some (.int .i64 (tl [] 8)) := (blk_cell hr 8).trans rfl
      have f8 := blk_free hr 8
      have d9 : wr.cell? ⟨ra, 9, none⟩ = some (.int .i64 (tl [] 9)) := (blk_cell hr 9).trans rfl
      have f9 := blk_free hr 9
      have d10 : wr.cell? ⟨ra, 10, none⟩ = some (.int .i64 (tl [] 10)) := (blk_cell hr 10).trans rfl
      have f10 := blk_free hr 10
      have HRA := hid hr
      clear ht hr hin hi hlt HR
      go_wp2_with fail
      have h0 := heap_setCell_same wr ra 0 _ _ (.int .i64 (tl l 0)) HRA.out
      have h1 := heap_setCell_same _ ra 1 _ _ (.int .i64 (tl l 1)) h0
      have h2 := heap_setCell_same _ ra 2 _ _ (.int .i64 (tl l 2)) h1
      have h3 := heap_setCell_same _ ra 3 _ _ (.int .i64 (tl l 3)) h2
      have h4 := heap_setCell_same _ ra 4 _ _ (.int .i64 (tl l 4)) h3
      have h5 := heap_setCell_same _ ra 5 _ _ (.int .i64 (tl l 5)) h4
      have h6 := heap_setCell_same _ ra 6 _ _ (.int .i64 (tl l 6)) h5
      have h7 := heap_setCell_same _ ra 7 _ _ (.int .i64 (tl l 7)) h6
      have h8 := heap_setCell_same _ ra 8 _ _ (.int .i64 (tl l 8)) h7
      have h9 := heap_setCell_same _ ra 9 _ _ (.int .i64 (tl l 9)) h8
      have h10 := heap_setCell_same _ ra 10 _ _ (.int .i64 (tl l 10)) h9
      have hbel : Below w.heap.size w (((((((((((wr.setCell ⟨ra, 0, none⟩ (.int .i64 (tl l 0))).setCell ⟨ra, 1, none⟩ (.int .i64 (tl l 1))).setCell ⟨ra, 2, none⟩ (.int .i64 (tl l 2))).setCell ⟨ra, 3, none⟩ (.int .i64 (tl l 3))).setCell ⟨ra, 4, none⟩ (.int .i64 (tl l 4))).setCell ⟨ra, 5, none⟩ (.int .i64 (tl l 5))).setCell ⟨ra, 6, none⟩ (.int .i64 (tl l 6))).setCell ⟨ra, 7, none⟩ (.int .i64 (tl l 7))).setCell ⟨ra, 8, none⟩ (.int .i64 (tl l 8))).setCell ⟨ra, 9, none⟩ (.int .i64 (tl l 9))).setCell ⟨ra, 10, none⟩ (.int .i64 (tl l 10))) := (((((((((((HB.out.setCell (p := ⟨ra, 0, none⟩) HNE.out.2.1 _).setCell (p := ⟨ra, 1, none⟩) HNE.out.2.1 _).setCell (p := ⟨ra, 2, none⟩) HNE.out.2.1 _).setCell (p := ⟨ra, 3, none⟩) HNE.out.2.1 _).setCell (p := ⟨ra, 4, none⟩) HNE.out.2.1 _).setCell (p := ⟨ra, 5, none⟩) HNE.out.2.1 _).setCell (p := ⟨ra, 6, none⟩) HNE.out.2.1 _).setCell (p := ⟨ra, 7, none⟩) HNE.out.2.1 _).setCell (p := ⟨ra, 8, none⟩) HNE.out.2.1 _).setCell (p := ⟨ra, 9, none⟩) HNE.out.2.1 _).setCell (p := ⟨ra, 10, none⟩) HNE.out.2.1 _)
      generalize ((((((((((wr.setCell ⟨ra, 0, none⟩ (.int .i64 (tl l 0))).setCell ⟨ra, 1, none⟩ (.int .i64 (tl l 1))).setCell ⟨ra, 2, none⟩ (.int .i64 (tl l 2))).setCell ⟨ra, 3, none⟩ (.int .i64 (tl l 3))).setCell ⟨ra, 4, none⟩ (.int .i64 (tl l 4))).setCell ⟨ra, 5, none⟩ (.int .i64 (tl l 5))).setCell ⟨ra, 6, none⟩ (.int .i64 (tl l 6))).setCell ⟨ra, 7, none⟩ (.int .i64 (tl l 7))).setCell ⟨ra, 8, none⟩ (.int .i64 (tl l 8))).setCell ⟨ra, 9, none⟩ (.int .i64 (tl l 9))).setCell ⟨ra, 10, none⟩ (.int .i64 (tl l 10)) = w9 at h10 hbel ⊢
      rw [cellsT_all l] at h10
      have h11 := h10
      have e0 : w9.cell? ⟨ra, 0, none⟩ = some (.int .i64 (tl l 0)) := (blk_cell h11 0).trans rfl
      have e1 : w9.cell? ⟨ra, 1, none⟩ = some (.int .i64 (tl l 1)) := (blk_cell h11 1).trans rfl
      have e2 : w9.cell? ⟨ra, 2, none⟩ = some (.int .i64 (tl l 2)) := (blk_cell h11 2).trans rfl
      have e3 : w9.cell? ⟨ra, 3, none⟩ = some (.int .i64 (tl l 3)) := (blk_cell h11 3).trans rfl
      have e4 : w9.cell? ⟨ra, 4, none⟩ = some (.int .i64 (tl l 4)) := (blk_cell h11 4).trans rfl
      have e5 : w9.cell? ⟨ra, 5, none⟩ = some (.int .i64 (tl l 5)) := (blk_cell h11 5).trans rfl
      have e6 : w9.cell? ⟨ra, 6, none⟩ = some (.int .i64 (tl l 6)) := (blk_cell h11 6).trans rfl
      have e7 : w9.cell? ⟨ra, 7, none⟩ = some (.int .i64 (tl l 7)) := (blk_cell h11 7).trans rfl
      have e8 : w9.cell? ⟨ra, 8, none⟩ = some (.int .i64 (tl l 8)) := (blk_cell h11 8).trans rfl
      have e9 : w9.cell? ⟨ra, 9, none⟩ = some (.int .i64 (tl l 9)) := (blk_cell h11 9).trans rfl
      have e10 : w9.cell? ⟨ra, 10, none⟩ = some (.int .i64 (tl l 10)) := (blk_cell h11 10).trans rfl
      clear h0 h1 h2 h3 h4 h5 h6 h7 h8 h9 h10 c0 d0 f0 c1 d1 f1 c2 d2 f2 c3 d3 f3 c4 d4 f4 c5 d5 f5 c6 d6 f6 c7 d7 f7 c8 d8 f8 c9 d9 f9 c10 d10 f10
      refine bodyPost_ret (results_cell_row (p := 2) (ty := 46) rfl _ _ ra _ (cellsT l) _ _ rfl h11 Try.underlying46 rfl (by show _ = some 11; kernel_rfl)) rfl ⟨rfl, hbel⟩
end Go.Proofs.Ytgimpkbknaopcaa
