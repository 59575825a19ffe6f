/- Write and Close on a device without faults, as plain data. No statement is proved here. -/
import Derived.Test.YtkhejipcclpknaaUA
set_option linter.unusedVariables false
set_option linter.unusedSimpArgs false
namespace Go.Proofs.Ytkhejipcclpknaa

/-- Behind the taking of a block. -/
structure WMid (n : Nat) (W W1 : Wt) (D : Dv) (F F1 : Int → Bool) (full : List Nat) (b : Nat) : Prop where
  bu : W1.buf = W.buf
  un : W1.unit = W.unit
  sz : W1.size = W.size
  fa : W1.fault = W.fault
  cl : W1.closed = W.closed
  bl : W1.blocks = full ++ [b]
  nd : W1.blocks.Nodup
  bf : ∀ x ∈ W1.blocks, x < n ∧ F1 (x : Int) = false
  nb : ∃ N : List Nat, W1.blocks = W.blocks ++ N ∧ (∀ x, F1 x = (F x && !(N.any fun b => x == (b : Int)))) ∧ ∀ b ∈ N, F (b : Int) = true
  ct : cntB F1 n + W1.blocks.length = cntB F n + W.blocks.length
theorem mid_some {n : Nat} {W : Wt} {D : Dv} {F : Int → Bool} {acc : List Int} {full : List Nat} (h : WG n W D F acc full) (hc : W.buf = [] → 0 < cntB F n) : ∃ W1 F1 b, wAlloc n W F = some (W1, F1) ∧ WMid n W W1 D F F1 full b := by
  rcases h.bk with ⟨h1, h2⟩ | ⟨h1, b, h2⟩
  · obtain ⟨b, ha, hb, hF⟩ := allocB_some (hc h1)
    have hnb : b ∉ W.blocks := fun hh => by
      have := (h.bf b hh).2
      rw [hF] at this
      cases this
    refine ⟨{ W with blocks := W.blocks ++ [b] }, takeF F b, b, by unfold wAlloc; rw [if_pos h1, ha]; rfl, rfl, rfl, rfl, rfl, rfl, by rw [h2], ?_, ?_, ⟨[b], rfl, fun x => by simp [takeF], fun x hx => by rw [List.mem_singleton] at hx; rw [hx]; exact hF⟩, ?_⟩
    · show (W.blocks ++ [b]).Nodup
      rw [List.nodup_append]
      exact ⟨h.nd, by simp, fun x hx y hy => by
        rw [List.mem_singleton] at hy
        rw [hy]
        exact fun e => hnb (by rw [← e]; exact hx)⟩
    · intro x hx
      rcases List.mem_append.1 hx with hx | hx
      · have := h.bf x hx
        exact ⟨this.1, by unfold takeF; rw [this.2]; rfl⟩
      · rw [List.mem_singleton] at hx
        rw [hx]
        exact ⟨hb, by unfold takeF; simp⟩
    · rw [cnt_take hF, if_pos hb]
      simp
      omega
  · refine ⟨W, F, b, by unfold wAlloc; rw [if_neg h1], rfl, rfl, rfl, rfl, rfl, h2, h.nd, h.bf, ⟨[], by simp, fun x => by simp, fun x hx => by simp at hx⟩, rfl⟩
theorem mid_none {n : Nat} {W : Wt} {F : Int → Bool} (h1 : W.buf = []) (hc : cntB F n ≤ 0) : wAlloc n W F = none := by
  unfold wAlloc
  rw [if_pos h1]
  cases ha : allocB n F with
  | none => rfl
  | some b =>
    unfold allocB at ha
    have e1 := List.find?_some ha
    have e2 := List.mem_of_find?_eq_some ha
    have e2 : b < n := by simpa using e2
    have := cnt_take (n := n) (show F (b : Int) = true from e1)
    rw [if_pos e2] at this
    have := cntB_nonneg (takeF F b) n
    omega
theorem wr_id {x : Int} (h0 : 0 ≤ x) (h1 : x ≤ 1000000000001) : wr64 x = x := by
  unfold wr64
  unfold RowKit.wrap64
  omega
/-- One round of Write. -/
theorem wr_round {n : Nat} {W : Wt} {D : Dv} {F : Int → Bool} {acc : List Int} {full : List Nat} (h : WG n W D F acc full) {l : List Int} (hl : l ≠ []) (hc : W.buf = [] → 0 < cntB F n) (h0 : 0 ≤ D.cw) (h1 : D.cw ≤ 1000000000000) :
    ∃ W' D' F' full' K, 1 ≤ K ∧ K ≤ l.length ∧ wWrite n W D F l = wWrite n W' D' F' (l.drop K) ∧ WG n W' D' F' (acc ++ l.take K) full' ∧ WSt D D' F F' W W' ∧ D'.cw - full'.length = D.cw - full.length ∧ cntB F' n + W'.blocks.length = cntB F n + W.blocks.length ∧ D.cw ≤ D'.cw ∧ D'.cw ≤ D.cw + 1 := by
  obtain ⟨W1, F1, b, hwa, hm⟩ := mid_some h hc
  have hbW : W.buf.length < W.unit := by rw [h.u]; exact h.bu
  have hne : W1.blocks ≠ [] := by rw [hm.bl]; simp
  have hk := wK_pos (W := W1) hl (by rw [hm.bu, hm.un]; exact hbW)
  have htl := wTake_len (W := W1) (l := l)
  rw [hm.bu] at htl hk
  have hbn : b < n := (hm.bf b (by rw [hm.bl]; simp)).1
  have hsz : (wTake W1 l).size = ((acc ++ l.take (wK W1 l)).length : Int) := by
    show W1.size + (wK W1 l : Nat) = _
    rw [hm.sz, h.sz, List.length_append, List.length_take]
    omega
  have hlast : W1.blocks.getLast? = some b := by rw [hm.bl]; simp
  have hbs : b < D.scr := by rw [h.sc]; exact hbn
  by_cases hf : (wTake W1 l).buf.length = W1.unit
  · have hfl : (wTake W1 l).buf.length = D.unit := by rw [hf, hm.un, h.u]
    have hw : wFlush n (wTake W1 l) D F1 = (0, { wTake W1 l with buf := [] }, ({ D with cw := wr64 (D.cw + 1) } : Dv).put b (wTake W1 l).buf, F1) := by
      unfold wFlush
      rw [show (wTake W1 l).blocks.getLast? = some b from hlast]
      simp only
      rw [write_nf h.nf hbs]
      rfl
    have hwr := wWrite_full (D := D) hl hwa hbW hne hf (by rw [hw])
    rw [hw] at hwr
    have hwr1 : wr64 (D.cw + 1) = D.cw + 1 := wr_id (by omega) (by omega)
    have hmb : ∀ b', (({ D with cw := wr64 (D.cw + 1) } : Dv).put b (wTake W1 l).buf).mblk b' = if b' = b then (wTake W1 l).buf else D.mblk b' := fun b' => mblk_put (D := { D with cw := wr64 (D.cw + 1) }) h.ml hbs hfl b'
    have hnd := hm.nd
    rw [hm.bl, List.nodup_append] at hnd
    have hfm : full.flatMap (({ D with cw := wr64 (D.cw + 1) } : Dv).put b (wTake W1 l).buf).mblk = full.flatMap D.mblk := by
      rw [List.flatMap_def, List.flatMap_def]
      congr 1
      refine List.map_congr_left fun x hx => ?_
      rw [hmb, if_neg (hnd.2.2 x hx b (by simp))]
    refine ⟨{ wTake W1 l with buf := [] }, ({ D with cw := wr64 (D.cw + 1) } : Dv).put b (wTake W1 l).buf, F1, full ++ [b], wK W1 l, hk.1, hk.2.1, hwr, ⟨h.nf, hm.un.trans h.u, h.u0, ?_, h.sc, hsz, .inl ⟨rfl, hm.bl⟩, ?_, h.u0, hm.nd, hm.bf⟩, ⟨rfl, rfl, rfl, rfl, rfl, rfl, rfl, hm.fa, hm.cl, hm.nb, ?_⟩, ?_, hm.ct, ?_, ?_⟩
    · show (({ D with cw := wr64 (D.cw + 1) } : Dv).put b (wTake W1 l).buf).mem.length = D.unit * D.scr
      have hle : b * D.unit + D.unit ≤ D.mem.length := by
        have := Nat.mul_le_mul_right D.unit (show b + 1 ≤ D.scr by omega)
        rw [Nat.add_mul, Nat.one_mul] at this
        rw [h.ml, Nat.mul_comm D.unit]
        exact this
      unfold Dv.put
      simp only [List.length_append, List.length_take, List.length_drop, hfl]
      have := h.ml
      omega
    · rw [List.flatMap_append, hfm, List.flatMap_singleton, hmb, if_pos rfl, h.ac]
      show _ = full.flatMap D.mblk ++ (W1.buf ++ l.take (wK W1 l)) ++ []
      rw [hm.bu, List.append_nil, List.append_assoc]
    · intro b' hb' hn'
      rw [hmb, if_neg (fun e => hn' (by rw [e]; show b ∈ W1.blocks; rw [hm.bl]; simp))]
    · show wr64 (D.cw + 1) - ((full ++ [b]).length : Int) = _
      rw [hwr1, List.length_append]
      simp
      omega
    · show D.cw ≤ wr64 (D.cw + 1)
      omega
    · show wr64 (D.cw + 1) ≤ _
      omega
  · have hwr := wWrite_part (D := D) hl hwa hbW hne hf
    have hkk : W.buf.length + wK W1 l < D.unit := by
      rw [htl, hm.un, h.u] at hf
      rw [hm.un, h.u] at hk
      have := h.bu
      omega
    refine ⟨wTake W1 l, D, F1, full, wK W1 l, hk.1, hk.2.1, hwr, ⟨h.nf, hm.un.trans h.u, h.u0, h.ml, h.sc, hsz, .inr ⟨?_, b, hm.bl⟩, ?_, by rw [htl]; exact hkk, hm.nd, hm.bf⟩, ⟨rfl, rfl, rfl, rfl, rfl, rfl, rfl, hm.fa, hm.cl, hm.nb, fun _ _ _ => rfl⟩, rfl, hm.ct, Int.le_refl _, by omega⟩
    · intro e
      rw [e] at htl
      simp at htl
      omega
    · show _ = full.flatMap D.mblk ++ (W1.buf ++ l.take (wK W1 l))
      rw [hm.bu, h.ac, List.append_assoc]
/-- Write where there is room. -/
theorem write_room (n : Nat) : ∀ (m : Nat) (l : List Int), l.length ≤ m → ∀ (W : Wt) (D : Dv) (F : Int → Bool) (acc : List Int) (full : List Nat), WG n W D F acc full → ((acc.length + l.length : Nat) : Int) ≤ (cntB F n + W.blocks.length) * D.unit → 0 ≤ D.cw → D.cw + l.length ≤ 1000000000000 →
    ∃ W' D' F' full', wWrite n W D F l = (0, W', D', F') ∧ WG n W' D' F' (acc ++ l) full' ∧ WSt D D' F F' W W' ∧ D'.cw - full'.length = D.cw - full.length ∧ cntB F' n + W'.blocks.length = cntB F n + W.blocks.length ∧ D.cw ≤ D'.cw ∧ D'.cw ≤ D.cw + l.length
  | m, [], _, W, D, F, acc, full, h, _, h0, h1 => ⟨W, D, F, full, rfl, by simpa using h, WSt.refl _ _ _, rfl, rfl, Int.le_refl _, by simp⟩
  | 0, x :: l, hm, _, _, _, _, _, _, _, _, _ => by simp at hm
  | m + 1, x :: l, hm, W, D, F, acc, full, h, hr, h0, h1 => by
    obtain ⟨l', hl'⟩ : ∃ l', l' = x :: l := ⟨_, rfl⟩
    rw [← hl'] at hm hr h1 ⊢
    have hne : l' ≠ [] := by rw [hl']; simp
    have hpos : 1 ≤ l'.length := by rw [hl']; simp
    have hu := h.u0
    obtain ⟨W1, D1, F1, f1, K, k1, k2, k3, k4, k5, k6, k7, k8, k9⟩ := wr_round h hne (fun hb => by
      have hal := h.len
      rcases h.bk with ⟨_, e⟩ | ⟨e, _⟩
      · rw [hb, ← e] at hal
        have hb0 : W.blocks.length * D.unit + 1 ≤ acc.length + l'.length := by
          simp at hal
          omega
        rcases Int.lt_or_le 0 (cntB F n) with hc | hc
        · exact hc
        · exfalso
          have : (cntB F n + W.blocks.length) * D.unit ≤ (W.blocks.length : Int) * D.unit := Int.mul_le_mul_of_nonneg_right (by omega) (by omega)
          have e2 : ((W.blocks.length * D.unit : Nat) : Int) = (W.blocks.length : Int) * D.unit := Int.natCast_mul _ _
          omega
      · exact absurd hb e) h0 (by omega)
    have hd : (l'.drop K).length = l'.length - K := List.length_drop
    have ht : (l'.take K).length = K := by rw [List.length_take]; omega
    obtain ⟨W2, D2, F2, f2, j1, j2, j3, j4, j5, j6, j7⟩ := write_room n m (l'.drop K) (by omega) W1 D1 F1 _ f1 k4 (by
      rw [List.length_append, ht, hd, k7, k5.un]
      have : acc.length + K + (l'.length - K) = acc.length + l'.length := by omega
      rw [this]
      exact hr) (by omega) (by omega)
    refine ⟨W2, D2, F2, f2, k3.trans j1, ?_, k5.trans j3, j4.trans k6, j5.trans k7, by omega, by omega⟩
    rw [List.append_assoc, List.take_append_drop] at j2
    exact j2
end Go.Proofs.Ytkhejipcclpknaa
