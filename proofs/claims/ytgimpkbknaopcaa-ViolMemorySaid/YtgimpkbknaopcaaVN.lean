/- List of a Top. No statement is proved here. -/
import Derived.Test.YtgimpkbknaopcaaVM
set_option linter.unusedVariables false
set_option linter.unusedSimpArgs false
namespace Go.Proofs.Ytgimpkbknaopcaa
open Go.RowKit Go.Shelf Go.Lib
open Go.Sort hiding Below

def ListPost (w : World) (l : List Pt) (e : Ending) (w' : World) : Prop := ∃ (v : Value) (d : Array Pt), e = .returned v ∧ PermIn 0 l.length l.toArray d ∧ SortedIn (ltOf cfP) 0 l.length d ∧ OwnV w' v (d.toList.map (·.v)) ∧ (∀ k, v.ownBlock = some k → w.heap.size ≤ k) ∧ Below w.heap.size w w'
set_option maxHeartbeats 4000000 in
set_option maxRecDepth 1000000 in
theorem list_none (B : Nat → Prop) (t : Nat) (lim tot : Int) (w : World) (h : Tp B w t lim tot (.slice none 0 0) []) : Calls Try.prog 14 #[.pointer (some ⟨t, 0, none⟩)] w (ListPost w []) := by
  have c2 : w.cell? ⟨t, 2, none⟩ = some (.slice none 0 0) := (blk_cell h.ht 2).trans rfl
  go_enter Try.func14, Try.ntmps14
  go_wp2_with (first | (go_at_call 27; refine (clone_none _).mono ?_; rintro e w' ⟨rfl, rfl⟩) | (go_at_call 28; refine (sort_none _).mono ?_; rintro e w' ⟨rfl, rfl⟩))
  refine wp_loop_rounds 1 ?_
  rw [rounds_succ]
  go_wp2_with fail
  go_ret
  exact ⟨_, #[], rfl, ⟨rfl, fun _ _ => rfl, List.Perm.refl _⟩, fun i j _ _ hj => by simp at hj, World.ownsRow_nil _ _ _ _, fun k hk => by simp [Value.ownBlock] at hk, Below.refl _ _⟩

set_option maxHeartbeats 4000000 in
set_option maxRecDepth 1000000 in
theorem list_some (B : Nat → Prop) (t g cap : Nat) (lim tot : Int) (l : List Pt) (w : World) (h : Tp B w t lim tot (.slice (some ⟨g, 0, none⟩) l.length cap) l) (hl : l.length ≤ 20000) : Calls Try.prog 14 #[.pointer (some ⟨t, 0, none⟩)] w (ListPost w l) := by
  have c2 : w.cell? ⟨t, 2, none⟩ = some (.slice (some ⟨g, 0, none⟩) l.length cap) := (blk_cell h.ht 2).trans rfl
  have hc := clone_some g cap l w h.own hl
  obtain ⟨n, hn⟩ : ∃ n, n = l.length := ⟨_, rfl⟩
  rw [← hn] at c2 hc hl
  have HN := hid hn
  have HC := hid hc
  clear hc hn h
  go_enter Try.func14, Try.ntmps14
  go_wp2_with fail
  refine HC.out.mono ?_
  rintro e w1 ⟨g1, cap1, rfl, ho1, hg1, hb1⟩
  obtain ⟨hH, hgl, _⟩ := own_holds ho1
  have hs := sort_any g1 cap1 l.toArray w1 hH hgl (by simp; have := HN.out; omega)
  rw [show l.toArray.size = n from by simp [HN.out]] at hs
  rw [← HN.out]
  have HS := hid hs
  have Ho1 := hid ho1
  have Hb1 := hid hb1
  have HH := hid hH
  clear hs ho1 hb1 hH HC c2
  go_wp2_with fail
  refine HS.out.mono ?_
  rintro e w2 ⟨rfl, d, hperm, hsort, hS⟩
  have hds : d.size = n := hperm.1.trans (by simp [HN.out])
  have H2 := hid (hS.holds hgl HH.out (by rw [hds]; simp [HN.out]))
  have hb2 := hid (Hb1.out.trans ((swk_upd hS).below Hb1.out.size (fun k hk => hk ▸ hg1)))
  have hg2 : g1 < w2.heap.size := hS.lt hgl
  have HP := hid hperm
  have HT := hid hsort
  clear hperm hsort hS HS Ho1 Hb1 HH
  go_wp2_with fail
  go_loopg [4, 16] n (fun gh s4 s16 wr => ∃ k : Nat, k ≤ n ∧ gh = n - k ∧ s16 = .int .i64 k ∧ Hid (OwnV wr s4 ((d.toList.take k).map (·.v))) ∧ Hid (∀ b, s4.ownBlock = some b → w2.heap.size ≤ b) ∧ Hid (Below w2.heap.size w2 wr))
  case atStart => exact ⟨0, Nat.zero_le _, by omega, rfl, hid (World.ownsRow_nil _ _ _ _), hid (fun b hb => by simp [Value.ownBlock] at hb), hid (Below.refl _ _)⟩
  case round =>
    obtain ⟨k, hk, rfl, rfl, hO, hN, hB⟩ := hrel
    by_cases hlt : k < n
    · have hk64 : (k : Int) < (n : Int) := by omega
      have hkd : k < d.size := by omega
      have hcell : ∀ c, c < 13 → wr.cell? ⟨g1, k * 13 + c, none⟩ = some (encP d[k]!)[c]! := by
        intro c hc
        have h1 := (H2.out.cell hkd hc).1
        rw [Nat.zero_add] at h1
        exact (hB.out.cell (p := ⟨g1, k * 13 + c, none⟩) hg2).trans h1
      have htk : (d.toList.take (k + 1)).map (·.v) = (d.toList.take k).map (·.v) ++ [(d[k]!).v] := by
        rw [List.take_succ_eq_append_getElem (by simpa using hkd), List.map_append]
        simp [hkd]
      have Htk := hid htk
      clear htk
      generalize d[k]! = p at *
      have q0 : wr.cell? ⟨g1, k * 13, none⟩ = some (.int .i64 p.v.kind) := hcell 0 (by omega)
      have q1 : wr.cell? ⟨g1, k * 13 + 1, none⟩ = some (.int .i64 p.v.time) := hcell 1 (by omega)
      have q2 : wr.cell? ⟨g1, k * 13 + 2, none⟩ = some (.int .i64 p.v.txn) := hcell 2 (by omega)
      have q3 : wr.cell? ⟨g1, k * 13 + 3, none⟩ = some (.int .i64 p.v.op) := hcell 3 (by omega)
      have q4 : wr.cell? ⟨g1, k * 13 + 4, none⟩ = some (.int .i64 p.v.wit) := hcell 4 (by omega)
      have q5 : wr.cell? ⟨g1, k * 13 + 5, none⟩ = some (.string p.v.key) := hcell 5 (by omega)
      have q6 : wr.cell? ⟨g1, k * 13 + 6, none⟩ = some (.bool p.v.want) := hcell 6 (by omega)
      have q7 : wr.cell? ⟨g1, k * 13 + 7, none⟩ = some (.string p.v.exp) := hcell 7 (by omega)
      have q8 : wr.cell? ⟨g1, k * 13 + 8, none⟩ = some (.bool p.v.got) := hcell 8 (by omega)
      have q9 : wr.cell? ⟨g1, k * 13 + 9, none⟩ = some (.string p.v.obs) := hcell 9 (by omega)
      have q10 : wr.cell? ⟨g1, k * 13 + 10, none⟩ = some (.int .i64 p.v.frm) := hcell 10 (by omega)
      have q11 : wr.cell? ⟨g1, k * 13 + 11, none⟩ = some (.int .i64 p.v.to) := hcell 11 (by omega)
      have q12 : wr.cell? ⟨g1, k * 13 + 12, none⟩ = some (.int .i64 p.num) := hcell 12 (by omega)
      clear hcell
      have hal := (Below.refl _ wr).alloc (Nat.le_refl _) (.cells #[.int .i64 p.v.kind, .int .i64 p.v.time, .int .i64 p.v.txn, .int .i64 p.v.op, .int .i64 p.v.wit, .string p.v.key, .bool p.v.want, .string p.v.exp, .bool p.v.got, .string p.v.obs, .int .i64 p.v.frm, .int .i64 p.v.to, .int .i64 p.num] 55)
      have hal2 := (Below.refl _ (wr.alloc (.cells #[.int .i64 p.v.kind, .int .i64 p.v.time, .int .i64 p.v.txn, .int .i64 p.v.op, .int .i64 p.v.wit, .string p.v.key, .bool p.v.want, .string p.v.exp, .bool p.v.got, .string p.v.obs, .int .i64 p.v.frm, .int .i64 p.v.to, .int .i64 p.num] 55))).alloc (Nat.le_refl _) (.cells #[.int .i64 p.v.kind, .int .i64 p.v.time, .int .i64 p.v.txn, .int .i64 p.v.op, .int .i64 p.v.wit, .string p.v.key, .bool p.v.want, .string p.v.exp, .bool p.v.got, .string p.v.obs, .int .i64 p.v.frm, .int .i64 p.v.to] 30)
      have hO2 := ownV_below (ownV_below hO.out hal) hal2
      obtain ⟨v', w4, hrun, hown, hgr, hdis⟩ := app_viol ((wr.alloc (.cells #[.int .i64 p.v.kind, .int .i64 p.v.time, .int .i64 p.v.txn, .int .i64 p.v.op, .int .i64 p.v.wit, .string p.v.key, .bool p.v.want, .string p.v.exp, .bool p.v.got, .string p.v.obs, .int .i64 p.v.frm, .int .i64 p.v.to, .int .i64 p.num] 55)).alloc (.cells #[.int .i64 p.v.kind, .int .i64 p.v.time, .int .i64 p.v.txn, .int .i64 p.v.op, .int .i64 p.v.wit, .string p.v.key, .bool p.v.want, .string p.v.exp, .bool p.v.got, .string p.v.obs, .int .i64 p.v.frm, .int .i64 p.v.to] 30)) 28 u4 _ p.v hO2 (wr.heap.size + 1) (heap_alloc2_new wr _ _) (by simp; omega)
      have hlen : ((d.toList.take k).map (·.v)).length = k := by simp; omega
      have hbn : Below w2.heap.size w2 w4 := (hB.out.trans ((hal.trans (hal2.mono hal.size)).mono hB.out.size)).trans ((Upd.of_grown hgr).below (Nat.le_trans hB.out.size (Nat.le_trans hal.size hal2.size)) hN.out)
      have hnn : ∀ b, v'.ownBlock = some b → w2.heap.size ≤ b := by
        intro b hb
        rcases hdis with h1 | ⟨h1, _⟩
        · exact hN.out b (h1 ▸ hb)
        · rw [h1] at hb
          cases hb
          exact Nat.le_trans hB.out.size (Nat.le_trans hal.size hal2.size)
      rw [← Htk.out] at hown
      have R1 := hid hown
      have R2 := hid hnn
      have R3 := hid hbn
      have Hlen := hid hlen
      clear hown hgr hdis hnn hbn hal hal2 hO2 hlen hO hN hB
      go_wp2_with (at_builtin; refine wpList_append_run _ rfl (.tmp 20) (.tmp 23) 28 28 rfl _ _ rfl rfl hrun ?_)
      go_roundg (n - (k + 1))
      case measure => omega
      case rel => exact ⟨k + 1, by omega, rfl, by go_num, R1, R2, R3⟩
    · have hkN : k = n := by omega
      subst hkN
      go_wp2_with fail
      go_ret
      refine ⟨_, d, rfl, by rw [← HN.out]; exact HP.out, by rw [← HN.out]; exact HT.out, ?_, fun b hb => Nat.le_trans hb2.out.size (hN.out b hb), hb2.out.trans (hB.out.mono hb2.out.size)⟩
      have h1 := hO.out
      rw [List.take_of_length_le (by rw [Array.length_toList]; omega)] at h1
      exact h1
end Go.Proofs.Ytgimpkbknaopcaa
