/- Writing on a device without faults, as plain data. No statement is proved here. -/
import Derived.Test.YtkhejipcclpknaaTE
import Derived.Test.YtkhejipcclpknaaExtQ
import Derived.Test.YtkhejipcclpknaaST
set_option linter.unusedVariables false
set_option linter.unusedSimpArgs false
namespace Go.Proofs.Ytkhejipcclpknaa
section


def NoF (D : Dv) : Prop := D.fs = [] ∧ D.down = false
theorem NoF.hit {D : Dv} (h : NoF D) (k b n : Int) : D.hit k b n = none := by
  unfold Dv.hit
  rw [h.1]
  rfl
theorem write_nf {D : Dv} (h : NoF D) {b : Nat} (hb : b < D.scr) (l : List Int) : D.write b l = (0, ({ D with cw := wr64 (D.cw + 1) } : Dv).put b l) := by
  unfold Dv.write
  rw [if_neg (by simp [h.2]), if_neg (by omega)]
  have h1 : NoF ({ D with cw := wr64 (D.cw + 1) } : Dv) := h
  rw [h1.hit]
  simp only
  rw [h1.hit]
  simp
theorem put_get {D : Dv} {b : Nat} {l : List Int} (hl : l.length = D.unit) (hb : b * D.unit + D.unit ≤ D.mem.length) (j : Nat) : (D.put b l).mem[j]? = if j < b * D.unit then D.mem[j]? else if j < b * D.unit + D.unit then l[j - b * D.unit]? else D.mem[j]? := by
  unfold Dv.put
  simp only
  have e1 : (D.mem.take (b * D.unit)).length = b * D.unit := by rw [List.length_take]; omega
  by_cases h1 : j < b * D.unit
  · rw [if_pos h1, List.append_assoc, List.getElem?_append_left (by omega), List.getElem?_take, if_pos h1]
  · rw [if_neg h1, List.append_assoc, List.getElem?_append_right (by omega), e1]
    by_cases h2 : j < b * D.unit + D.unit
    · rw [if_pos h2, List.getElem?_append_left (by omega)]
    · rw [if_neg h2, List.getElem?_append_right (by omega), List.getElem?_drop, hl]
      congr 1
      omega
theorem mblk_at (D : Dv) (b i : Nat) : (D.mblk b)[i]? = if i < D.unit then D.mem[b * D.unit + i]? else none := by
  unfold Dv.mblk
  rw [List.getElem?_take]
  split
  · rw [List.getElem?_drop]
  · rfl
theorem mblk_put {D : Dv} {b : Nat} {l : List Int} (hm : D.mem.length = D.unit * D.scr) (hb : b < D.scr) (hl : l.length = D.unit) (b' : Nat) : (D.put b l).mblk b' = if b' = b then l else D.mblk b' := by
  have hle : b * D.unit + D.unit ≤ D.mem.length := by
    have := Nat.mul_le_mul_right D.unit (show b + 1 ≤ D.scr by omega)
    rw [Nat.add_mul, Nat.one_mul] at this
    rw [hm, Nat.mul_comm D.unit]
    exact this
  have hu : (D.put b l).unit = D.unit := rfl
  apply List.ext_getElem?
  intro i
  rw [mblk_at, hu]
  by_cases hi : i < D.unit
  · rw [if_pos hi, put_get hl hle]
    by_cases hbb : b' = b
    · subst hbb
      rw [if_pos rfl, if_neg (by omega), if_pos (by omega)]
      congr 1
      omega
    · rw [if_neg hbb, mblk_at, if_pos hi]
      rcases Nat.lt_or_gt_of_ne hbb with h | h
      · have := Nat.mul_le_mul_right D.unit (show b' + 1 ≤ b by omega)
        rw [Nat.add_mul, Nat.one_mul] at this
        rw [if_pos (by omega)]
      · have := Nat.mul_le_mul_right D.unit (show b + 1 ≤ b' by omega)
        rw [Nat.add_mul, Nat.one_mul] at this
        rw [if_neg (by omega), if_neg (by omega)]
  · rw [if_neg hi]
    split
    · rw [List.getElem?_eq_none (by omega)]
    · rw [mblk_at, if_neg hi]
/-- A writer, its device and its space, and the bytes that it has taken. -/
structure WG (n : Nat) (W : Wt) (D : Dv) (F : Int → Bool) (acc : List Int) (full : List Nat) : Prop where
  nf : NoF D
  u : W.unit = D.unit
  u0 : 0 < D.unit
  ml : D.mem.length = D.unit * D.scr
  sc : D.scr = n
  sz : W.size = (acc.length : Int)
  bk : (W.buf = [] ∧ W.blocks = full) ∨ (W.buf ≠ [] ∧ ∃ b, W.blocks = full ++ [b])
  ac : acc = full.flatMap D.mblk ++ W.buf
  bu : W.buf.length < D.unit
  nd : W.blocks.Nodup
  bf : ∀ b ∈ W.blocks, b < n ∧ F (b : Int) = false
theorem flat_len {D : Dv} (hm : D.mem.length = D.unit * D.scr) : ∀ {l : List Nat}, (∀ b ∈ l, b < D.scr) → (l.flatMap D.mblk).length = l.length * D.unit
  | [], _ => by simp
  | b :: r, h => by
    rw [List.flatMap_cons, List.length_append, flat_len hm (fun x hx => h x (List.mem_cons_of_mem _ hx)), mblk_len hm (h b (by simp)), List.length_cons, Nat.add_mul, Nat.one_mul, Nat.add_comm]
theorem WG.fb {n : Nat} {W : Wt} {D : Dv} {F : Int → Bool} {acc : List Int} {full : List Nat} (h : WG n W D F acc full) : ∀ b ∈ full, b ∈ W.blocks := fun b hb => by
  rcases h.bk with ⟨_, e⟩ | ⟨_, x, e⟩
  · rw [e]; exact hb
  · rw [e]; exact List.mem_append_left _ hb
theorem WG.len {n : Nat} {W : Wt} {D : Dv} {F : Int → Bool} {acc : List Int} {full : List Nat} (h : WG n W D F acc full) : acc.length = full.length * D.unit + W.buf.length := by
  have := flat_len h.ml (l := full) (fun b hb => by rw [h.sc]; exact (h.bf b (h.fb b hb)).1)
  rw [h.ac, List.length_append, this]
/-- What writing leaves as it was. -/
structure WSt (D D' : Dv) (F F' : Int → Bool) (W W' : Wt) : Prop where
  un : D'.unit = D.unit
  sc : D'.scr = D.scr
  ip : D'.inp = D.inp
  ci : D'.ci = D.ci
  cs : D'.cs = D.cs
  ck : D'.ck = D.ck
  rd : D'.rd = D.rd
  fa : W'.fault = W.fault
  cl : W'.closed = W.closed
  nb : ∃ N : List Nat, W'.blocks = W.blocks ++ N ∧ (∀ x, F' x = (F x && !(N.any fun b => x == (b : Int)))) ∧ ∀ b ∈ N, F (b : Int) = true
  kp : ∀ b, b < D.scr → b ∉ W'.blocks → D'.mblk b = D.mblk b
theorem WSt.refl (D : Dv) (F : Int → Bool) (W : Wt) : WSt D D F F W W := ⟨rfl, rfl, rfl, rfl, rfl, rfl, rfl, rfl, rfl, ⟨[], by simp, fun x => by simp, fun b hb => by simp at hb⟩, fun _ _ _ => rfl⟩
theorem WSt.trans {D D1 D2 : Dv} {F F1 F2 : Int → Bool} {W W1 W2 : Wt} (h : WSt D D1 F F1 W W1) (k : WSt D1 D2 F1 F2 W1 W2) : WSt D D2 F F2 W W2 := by
  obtain ⟨N, n1, n2, n3⟩ := h.nb
  obtain ⟨M, m1, m2, m3⟩ := k.nb
  refine ⟨k.un.trans h.un, k.sc.trans h.sc, k.ip.trans h.ip, k.ci.trans h.ci, k.cs.trans h.cs, k.ck.trans h.ck, k.rd.trans h.rd, k.fa.trans h.fa, k.cl.trans h.cl, ⟨N ++ M, by rw [m1, n1, List.append_assoc], fun x => ?_, fun b hb => ?_⟩, fun b hb hn => ?_⟩
  · rw [m2, n2, List.any_append, Bool.not_or, Bool.and_assoc]
  · rcases List.mem_append.1 hb with hb | hb
    · exact n3 b hb
    · have := m3 b hb
      rw [n2, Bool.and_eq_true] at this
      exact this.1
  · rw [k.kp b (by rw [h.sc]; exact hb) hn, h.kp b hb (fun hh => hn (by rw [m1]; exact List.mem_append_left _ hh))]
theorem cnt_pos {F : Int → Bool} : ∀ {n : Nat}, 0 < cntB F n → ∃ b : Nat, b < n ∧ F (b : Int) = true
  | 0, h => by simp [cntB] at h
  | n + 1, h => by
    unfold cntB at h
    by_cases hb : F (n : Int) = true
    · exact ⟨n, by omega, hb⟩
    · rw [if_neg hb] at h
      obtain ⟨b, h1, h2⟩ := cnt_pos (F := F) (n := n) (by omega)
      exact ⟨b, by omega, h2⟩
theorem cnt_take {F : Int → Bool} {b : Nat} (hF : F (b : Int) = true) : ∀ {n : Nat}, cntB (takeF F b) n = cntB F n - if b < n then 1 else 0
  | 0 => by simp [cntB]
  | n + 1 => by
    unfold cntB
    rw [cnt_take hF (n := n)]
    unfold takeF
    by_cases hb : b = n
    · subst hb
      simp [hF]
    · have h1 : ((n : Int) == (b : Int)) = false := beq_eq_false_iff_ne.mpr (by omega)
      rw [h1]
      simp only [Bool.not_false, Bool.and_true]
      have h2 : (b < n + 1) = (b < n) := by
        apply propext
        omega
      simp only [h2]
      omega
theorem cntB_nonneg (F : Int → Bool) : ∀ n, 0 ≤ cntB F n
  | 0 => by simp [cntB]
  | n + 1 => by
    unfold cntB
    have := cntB_nonneg F n
    split <;> omega
theorem allocB_some {n : Nat} {F : Int → Bool} (h : 0 < cntB F n) : ∃ b, allocB n F = some b ∧ b < n ∧ F (b : Int) = true := by
  obtain ⟨b, h1, h2⟩ := cnt_pos h
  unfold allocB
  cases hf : (List.range n).find? fun (b : Nat) => F (b : Int) with
  | none =>
    rw [List.find?_eq_none] at hf
    exact absurd h2 (by simpa using hf b (by simpa using h1))
  | some x =>
    have e1 := List.find?_some hf
    have e2 := List.mem_of_find?_eq_some hf
    exact ⟨x, rfl, by simpa using e2, e1⟩

end

section


/-- Behind the taking of a block. -/
structure WMid (n : Nat) (W W1 : Wt) (D : Dv) (F F1 : Int → Bool) (full : List Nat) (b : Nat) : Prop where
  bu : W1.buf = W.buf
  un : W1.unit = W.unit
  sz : W1.size = W.size
  fa : W1.fault = W.fault
  cl : W1.closed = W.closed
  bl : W1.blocks = full ++ [b]
  nd : W1.blocks.Nodup
  bf : ∀ x ∈ W1.blocks, x < n ∧ F1 (x : Int) = false
  nb : ∃ N : List Nat, W1.blocks = W.blocks ++ N ∧ (∀ x, F1 x = (F x && !(N.any fun b => x == (b : Int)))) ∧ ∀ b ∈ N, F (b : Int) = true
  ct : cntB F1 n + W1.blocks.length = cntB F n + W.blocks.length
theorem mid_some {n : Nat} {W : Wt} {D : Dv} {F : Int → Bool} {acc : List Int} {full : List Nat} (h : WG n W D F acc full) (hc : W.buf = [] → 0 < cntB F n) : ∃ W1 F1 b, wAlloc n W F = some (W1, F1) ∧ WMid n W W1 D F F1 full b := by
  rcases h.bk with ⟨h1, h2⟩ | ⟨h1, b, h2⟩
  · obtain ⟨b, ha, hb, hF⟩ := allocB_some (hc h1)
    have hnb : b ∉ W.blocks := fun hh => by
      have := (h.bf b hh).2
      rw [hF] at this
      cases this
    refine ⟨{ W with blocks := W.blocks ++ [b] }, takeF F b, b, by unfold wAlloc; rw [if_pos h1, ha]; rfl, rfl, rfl, rfl, rfl, rfl, by rw [h2], ?_, ?_, ⟨[b], rfl, fun x => by simp [takeF], fun x hx => by rw [List.mem_singleton] at hx; rw [hx]; exact hF⟩, ?_⟩
    · show (W.blocks ++ [b]).Nodup
      rw [List.nodup_append]
      exact ⟨h.nd, by simp, fun x hx y hy => by
        rw [List.mem_singleton] at hy
        rw [hy]
        exact fun e => hnb (by rw [← e]; exact hx)⟩
    · intro x hx
      rcases List.mem_append.1 hx with hx | hx
      · have := h.bf x hx
        exact ⟨this.1, by unfold takeF; rw [this.2]; rfl⟩
      · rw [List.mem_singleton] at hx
        rw [hx]
        exact ⟨hb, by unfold takeF; simp⟩
    · rw [cnt_take hF, if_pos hb]
      simp
      omega
  · refine ⟨W, F, b, by unfold wAlloc; rw [if_neg h1], rfl, rfl, rfl, rfl, rfl, h2, h.nd, h.bf, ⟨[], by simp, fun x => by simp, fun x hx => by simp at hx⟩, rfl⟩
theorem mid_none {n : Nat} {W : Wt} {F : Int → Bool} (h1 : W.buf = []) (hc : cntB F n ≤ 0) : wAlloc n W F = none := by
  unfold wAlloc
  rw [if_pos h1]
  cases ha : allocB n F with
  | none => rfl
  | some b =>
    unfold allocB at ha
    have e1 := List.find?_some ha
    have e2 := List.mem_of_find?_eq_some ha
    have e2 : b < n := by simpa using e2
    have := cnt_take (n := n) (show F (b : Int) = true from e1)
    rw [if_pos e2] at this
    have := cntB_nonneg (takeF F b) n
    omega
theorem wr_id {x : Int} (h0 : 0 ≤ x) (h1 : x ≤ 1000000000001) : wr64 x = x := by
  unfold wr64
  unfold RowKit.wrap64
  omega
/-- One round of Write. -/
theorem wr_round {n : Nat} {W : Wt} {D : Dv} {F : Int → Bool} {acc : List Int} {full : List Nat} (h : WG n W D F acc full) {l : List Int} (hl : l ≠ []) (hc : W.buf = [] → 0 < cntB F n) (h0 : 0 ≤ D.cw) (h1 : D.cw ≤ 1000000000000) :
    ∃ W' D' F' full' K, 1 ≤ K ∧ K ≤ l.length ∧ wWrite n W D F l = wWrite n W' D' F' (l.drop K) ∧ WG n W' D' F' (acc ++ l.take K) full' ∧ WSt D D' F F' W W' ∧ D'.cw - full'.length = D.cw - full.length ∧ cntB F' n + W'.blocks.length = cntB F n + W.blocks.length ∧ D.cw ≤ D'.cw ∧ D'.cw ≤ D.cw + 1 := by
  obtain ⟨W1, F1, b, hwa, hm⟩ := mid_some h hc
  have hbW : W.buf.length < W.unit := by rw [h.u]; exact h.bu
  have hne : W1.blocks ≠ [] := by rw [hm.bl]; simp
  have hk := wK_pos (W := W1) hl (by rw [hm.bu, hm.un]; exact hbW)
  have htl := wTake_len (W := W1) (l := l)
  rw [hm.bu] at htl hk
  have hbn : b < n := (hm.bf b (by rw [hm.bl]; simp)).1
  have hsz : (wTake W1 l).size = ((acc ++ l.take (wK W1 l)).length : Int) := by
    show W1.size + (wK W1 l : Nat) = _
    rw [hm.sz, h.sz, List.length_append, List.length_take]
    omega
  have hlast : W1.blocks.getLast? = some b := by rw [hm.bl]; simp
  have hbs : b < D.scr := by rw [h.sc]; exact hbn
  by_cases hf : (wTake W1 l).buf.length = W1.unit
  · have hfl : (wTake W1 l).buf.length = D.unit := by rw [hf, hm.un, h.u]
    have hw : wFlush n (wTake W1 l) D F1 = (0, { wTake W1 l with buf := [] }, ({ D with cw := wr64 (D.cw + 1) } : Dv).put b (wTake W1 l).buf, F1) := by
      unfold wFlush
      rw [show (wTake W1 l).blocks.getLast? = some b from hlast]
      simp only
      rw [write_nf h.nf hbs]
      rfl
    have hwr := wWrite_full (D := D) hl hwa hbW hne hf (by rw [hw])
    rw [hw] at hwr
    have hwr1 : wr64 (D.cw + 1) = D.cw + 1 := wr_id (by omega) (by omega)
    have hmb : ∀ b', (({ D with cw := wr64 (D.cw + 1) } : Dv).put b (wTake W1 l).buf).mblk b' = if b' = b then (wTake W1 l).buf else D.mblk b' := fun b' => mblk_put (D := { D with cw := wr64 (D.cw + 1) }) h.ml hbs hfl b'
    have hnd := hm.nd
    rw [hm.bl, List.nodup_append] at hnd
    have hfm : full.flatMap (({ D with cw := wr64 (D.cw + 1) } : Dv).put b (wTake W1 l).buf).mblk = full.flatMap D.mblk := by
      rw [List.flatMap_def, List.flatMap_def]
      congr 1
      refine List.map_congr_left fun x hx => ?_
      rw [hmb, if_neg (hnd.2.2 x hx b (by simp))]
    refine ⟨{ wTake W1 l with buf := [] }, ({ D with cw := wr64 (D.cw + 1) } : Dv).put b (wTake W1 l).buf, F1, full ++ [b], wK W1 l, hk.1, hk.2.1, hwr, ⟨h.nf, hm.un.trans h.u, h.u0, ?_, h.sc, hsz, .inl ⟨rfl, hm.bl⟩, ?_, h.u0, hm.nd, hm.bf⟩, ⟨rfl, rfl, rfl, rfl, rfl, rfl, rfl, hm.fa, hm.cl, hm.nb, ?_⟩, ?_, hm.ct, ?_, ?_⟩
    · show (({ D with cw := wr64 (D.cw + 1) } : Dv).put b (wTake W1 l).buf).mem.length = D.unit * D.scr
      have hle : b * D.unit + D.unit ≤ D.mem.length := by
        have := Nat.mul_le_mul_right D.unit (show b + 1 ≤ D.scr by omega)
        rw [Nat.add_mul, Nat.one_mul] at this
        rw [h.ml, Nat.mul_comm D.unit]
        exact this
      unfold Dv.put
      simp only [List.length_append, List.length_take, List.length_drop, hfl]
      have := h.ml
      omega
    · rw [List.flatMap_append, hfm, List.flatMap_singleton, hmb, if_pos rfl, h.ac]
      show _ = full.flatMap D.mblk ++ (W1.buf ++ l.take (wK W1 l)) ++ []
      rw [hm.bu, List.append_nil, List.append_assoc]
    · intro b' hb' hn'
      rw [hmb, if_neg (fun e => hn' (by rw [e]; show b ∈ W1.blocks; rw [hm.bl]; simp))]
    · show wr64 (D.cw + 1) - ((full ++ [b]).length : Int) = _
      rw [hwr1, List.length_append]
      simp
      omega
    · show D.cw ≤ wr64 (D.cw + 1)
      omega
    · show wr64 (D.cw + 1) ≤ _
      omega
  · have hwr := wWrite_part (D := D) hl hwa hbW hne hf
    have hkk : W.buf.length + wK W1 l < D.unit := by
      rw [htl, hm.un, h.u] at hf
      rw [hm.un, h.u] at hk
      have := h.bu
      omega
    refine ⟨wTake W1 l, D, F1, full, wK W1 l, hk.1, hk.2.1, hwr, ⟨h.nf, hm.un.trans h.u, h.u0, h.ml, h.sc, hsz, .inr ⟨?_, b, hm.bl⟩, ?_, by rw [htl]; exact hkk, hm.nd, hm.bf⟩, ⟨rfl, rfl, rfl, rfl, rfl, rfl, rfl, hm.fa, hm.cl, hm.nb, fun _ _ _ => rfl⟩, rfl, hm.ct, Int.le_refl _, by omega⟩
    · intro e
      rw [e] at htl
      simp at htl
      omega
    · show _ = full.flatMap D.mblk ++ (W1.buf ++ l.take (wK W1 l))
      rw [hm.bu, h.ac, List.append_assoc]
/-- Write where there is room. -/
theorem write_room (n : Nat) : ∀ (m : Nat) (l : List Int), l.length ≤ m → ∀ (W : Wt) (D : Dv) (F : Int → Bool) (acc : List Int) (full : List Nat), WG n W D F acc full → ((acc.length + l.length : Nat) : Int) ≤ (cntB F n + W.blocks.length) * D.unit → 0 ≤ D.cw → D.cw + l.length ≤ 1000000000000 →
    ∃ W' D' F' full', wWrite n W D F l = (0, W', D', F') ∧ WG n W' D' F' (acc ++ l) full' ∧ WSt D D' F F' W W' ∧ D'.cw - full'.length = D.cw - full.length ∧ cntB F' n + W'.blocks.length = cntB F n + W.blocks.length ∧ D.cw ≤ D'.cw ∧ D'.cw ≤ D.cw + l.length
  | m, [], _, W, D, F, acc, full, h, _, h0, h1 => ⟨W, D, F, full, rfl, by simpa using h, WSt.refl _ _ _, rfl, rfl, Int.le_refl _, by simp⟩
  | 0, x :: l, hm, _, _, _, _, _, _, _, _, _ => by simp at hm
  | m + 1, x :: l, hm, W, D, F, acc, full, h, hr, h0, h1 => by
    obtain ⟨l', hl'⟩ : ∃ l', l' = x :: l := ⟨_, rfl⟩
    rw [← hl'] at hm hr h1 ⊢
    have hne : l' ≠ [] := by rw [hl']; simp
    have hpos : 1 ≤ l'.length := by rw [hl']; simp
    have hu := h.u0
    obtain ⟨W1, D1, F1, f1, K, k1, k2, k3, k4, k5, k6, k7, k8, k9⟩ := wr_round h hne (fun hb => by
      have hal := h.len
      rcases h.bk with ⟨_, e⟩ | ⟨e, _⟩
      · rw [hb, ← e] at hal
        have hb0 : W.blocks.length * D.unit + 1 ≤ acc.length + l'.length := by
          simp at hal
          omega
        rcases Int.lt_or_le 0 (cntB F n) with hc | hc
        · exact hc
        · exfalso
          have : (cntB F n + W.blocks.length) * D.unit ≤ (W.blocks.length : Int) * D.unit := Int.mul_le_mul_of_nonneg_right (by omega) (by omega)
          have e2 : ((W.blocks.length * D.unit : Nat) : Int) = (W.blocks.length : Int) * D.unit := Int.natCast_mul _ _
          omega
      · exact absurd hb e) h0 (by omega)
    have hd : (l'.drop K).length = l'.length - K := List.length_drop
    have ht : (l'.take K).length = K := by rw [List.length_take]; omega
    obtain ⟨W2, D2, F2, f2, j1, j2, j3, j4, j5, j6, j7⟩ := write_room n m (l'.drop K) (by omega) W1 D1 F1 _ f1 k4 (by
      rw [List.length_append, ht, hd, k7, k5.un]
      have : acc.length + K + (l'.length - K) = acc.length + l'.length := by omega
      rw [this]
      exact hr) (by omega) (by omega)
    refine ⟨W2, D2, F2, f2, k3.trans j1, ?_, k5.trans j3, j4.trans k6, j5.trans k7, by omega, by omega⟩
    rw [List.append_assoc, List.take_append_drop] at j2
    exact j2

end

section


theorem freeAll_eq (n : Nat) : ∀ (L : List Nat) (F : Int → Bool), (∀ b ∈ L, b < n) → ∀ x, freeAll n F L x = (F x || L.any fun b => x == (b : Int))
  | [], F, _, x => by simp [freeAll]
  | b :: r, F, h, x => by
    have e : freeAll n F (b :: r) = freeAll n (free1F n F (b : Int)) r := rfl
    rw [e, freeAll_eq n r _ (fun y hy => h y (List.mem_cons_of_mem _ hy))]
    have hb := h b (by simp)
    unfold free1F
    rw [decide_eq_true (show 0 ≤ (b : Int) ∧ (b : Int) < (n : Int) by omega), List.any_cons, Bool.true_and, Bool.or_assoc]
/-- Write where there is no room. -/
theorem write_short (n : Nat) : ∀ (m : Nat) (l : List Int), l.length ≤ m → ∀ (W : Wt) (D : Dv) (F : Int → Bool) (acc : List Int) (full : List Nat), WG n W D F acc full → (cntB F n + W.blocks.length) * D.unit < ((acc.length + l.length : Nat) : Int) → 0 ≤ D.cw → D.cw + l.length ≤ 1000000000000 →
    ∃ (W' : Wt) (D' : Dv) (F' : Int → Bool), wWrite n W D F l = (42, W'.spoil 42, D', F') ∧ W'.closed = W.closed ∧ W'.unit = W.unit ∧ (∀ x, F' x = (F x || W.blocks.any fun b => x == (b : Int))) ∧ NoF D' ∧ D.cw ≤ D'.cw ∧ D'.cw ≤ D.cw + l.length
  | m, [], _, W, D, F, acc, full, h, hr, h0, h1 => by
    exfalso
    have hal := h.len
    have hu := h.bu
    have hcn := cntB_nonneg F n
    have e2 : ((full.length * D.unit : Nat) : Int) = (full.length : Int) * D.unit := Int.natCast_mul _ _
    simp at hr
    rcases h.bk with ⟨e1, e⟩ | ⟨e1, b, e⟩
    · have : (full.length : Int) * D.unit ≤ (cntB F n + W.blocks.length) * D.unit := Int.mul_le_mul_of_nonneg_right (by rw [e]; omega) (by omega)
      rw [e1] at hal
      simp at hal
      omega
    · have : ((full.length : Int) + 1) * D.unit ≤ (cntB F n + W.blocks.length) * D.unit := Int.mul_le_mul_of_nonneg_right (by rw [e]; simp; omega) (by omega)
      rw [Int.add_mul] at this
      omega
  | 0, x :: l, hm, _, _, _, _, _, _, _, _, _ => by simp at hm
  | m + 1, x :: l, hm, W, D, F, acc, full, h, hr, h0, h1 => by
    obtain ⟨l', hl'⟩ : ∃ l', l' = x :: l := ⟨_, rfl⟩
    rw [← hl'] at hm hr h1 ⊢
    have hne : l' ≠ [] := by rw [hl']; simp
    have hpos : 1 ≤ l'.length := by rw [hl']; simp
    have hu := h.u0
    by_cases hno : W.buf = [] ∧ cntB F n ≤ 0
    · have hw := wWrite_none (D := D) hne (mid_none (n := n) hno.1 hno.2)
      exact ⟨W, D, freeAll n F W.blocks, hw, rfl, rfl, freeAll_eq n W.blocks F (fun b hb => (h.bf b hb).1), h.nf, Int.le_refl _, by omega⟩
    · obtain ⟨W1, D1, F1, f1, K, k1, k2, k3, k4, k5, k6, k7, k8, k9⟩ := wr_round h hne (fun hb => by
        rcases Int.lt_or_le 0 (cntB F n) with hc | hc
        · exact hc
        · exact absurd ⟨hb, hc⟩ hno) h0 (by omega)
      have hd : (l'.drop K).length = l'.length - K := List.length_drop
      have ht : (l'.take K).length = K := by rw [List.length_take]; omega
      obtain ⟨W2, D2, F2, j1, j2, j2', j3, j4, j5, j6⟩ := write_short n m (l'.drop K) (by omega) W1 D1 F1 _ f1 k4 (by
        rw [List.length_append, ht, hd, k7, k5.un]
        have : acc.length + K + (l'.length - K) = acc.length + l'.length := by omega
        rw [this]
        exact hr) (by omega) (by omega)
      obtain ⟨N, n1, n2, n3⟩ := k5.nb
      refine ⟨W2, D2, F2, k3.trans j1, j2.trans k5.cl, ?_, fun x => ?_, j4, by omega, by omega⟩
      · rw [j2', k4.u, h.u, k5.un]
      · rw [j3, n1, n2, List.any_append]
        cases hN : N.any fun b => x == (b : Int) with
        | false => simp
        | true =>
          rw [List.any_eq_true] at hN
          obtain ⟨b, hb, hx⟩ := hN
          have hxb : x = (b : Int) := by simpa using hx
          have := n3 b hb
          rw [← hxb] at this
          simp [this]
/-- A file that has been written: its blocks and its bytes. -/
structure FG (D : Dv) (bl : List Nat) (c : List Int) : Prop where
  bs : ∀ b ∈ bl, b < D.scr
  nd : bl.Nodup
  by' : ∃ pad, bl.flatMap D.mblk = c ++ pad
  ln : bl.length = needN c.length D.unit
theorem need_exact {a k u : Nat} (hu : 0 < u) (h : a = k * u) : needN a u = k := by
  subst h
  unfold needN
  rw [Nat.mul_div_cancel _ hu, Nat.mul_mod_left]
  simp
theorem need_part {a k r u : Nat} (hu : r < u) (h : a = k * u + r) (hr : 0 < r) : needN a u = k + 1 := by
  subst h
  unfold needN
  have e1 : (k * u + r) / u = k := by
    rw [Nat.add_comm, Nat.add_mul_div_right _ _ (by omega), Nat.div_eq_of_lt hu]
    omega
  have e2 : (k * u + r) % u = r := by
    rw [Nat.add_comm, Nat.add_mul_mod_self_right, Nat.mod_eq_of_lt hu]
  rw [e1, e2, if_pos hr]
theorem WG.need {n : Nat} {W : Wt} {D : Dv} {F : Int → Bool} {acc : List Int} {full : List Nat} (h : WG n W D F acc full) : W.blocks.length = needN acc.length D.unit := by
  have hal := h.len
  rcases h.bk with ⟨e1, e⟩ | ⟨e1, b, e⟩
  · rw [e1] at hal
    rw [e, need_exact h.u0 (by simpa using hal)]
  · rw [e, need_part h.bu hal (List.length_pos_iff.2 e1)]
    simp
/-- Close where nothing fails. -/
theorem close_room {n : Nat} {W : Wt} {D : Dv} {F : Int → Bool} {acc : List Int} {full : List Nat} (h : WG n W D F acc full) (h0 : 0 ≤ D.cw) (h1 : D.cw ≤ 1000000000000) :
    ∃ W' D', wClose n W D F = (0, (W.blocks, (acc.length : Int)), W', D', F) ∧ W'.closed = true ∧ W'.fault = W.fault ∧ W'.size = W.size ∧ NoF D' ∧ D'.mem.length = D'.unit * D'.scr ∧ WSt D D' F F W { W with closed := W.closed } ∧ FG D' W.blocks acc ∧ D'.cw = D.cw - full.length + W.blocks.length := by
  rcases h.bk with ⟨e1, e⟩ | ⟨e1, b, e⟩
  · refine ⟨{ W with closed := true }, D, by unfold wClose; rw [if_pos e1, h.sz], rfl, rfl, rfl, h.nf, h.ml, WSt.refl _ _ _, ⟨fun b hb => by rw [h.sc]; exact (h.bf b hb).1, h.nd, ⟨[], ?_⟩, h.need⟩, by rw [e]; omega⟩
    rw [h.ac, e1, e, List.append_nil, List.append_nil]
  · obtain ⟨P, hP⟩ : ∃ P, P = wPad W (W.unit - W.buf.length) := ⟨_, rfl⟩
    have hPb : P.buf = W.buf ++ List.replicate (D.unit - W.buf.length) 0 := by rw [hP, ← h.u]; rfl
    have hPl : P.buf.length = D.unit := by rw [hPb]; simp; have := h.bu; omega
    have hbs : b < D.scr := by rw [h.sc]; exact (h.bf b (by rw [e]; simp)).1
    have hlast : P.blocks.getLast? = some b := by rw [hP]; show W.blocks.getLast? = _; rw [e]; simp
    have hw : wFlush n P D F = (0, { P with buf := [] }, ({ D with cw := wr64 (D.cw + 1) } : Dv).put b P.buf, F) := by
      unfold wFlush
      rw [hlast]
      simp only
      rw [write_nf h.nf hbs]
      rfl
    have hwr1 : wr64 (D.cw + 1) = D.cw + 1 := wr_id (by omega) (by omega)
    have hmb : ∀ b', (({ D with cw := wr64 (D.cw + 1) } : Dv).put b P.buf).mblk b' = if b' = b then P.buf else D.mblk b' := fun b' => mblk_put (D := { D with cw := wr64 (D.cw + 1) }) h.ml hbs hPl b'
    have hnd := h.nd
    rw [e, List.nodup_append] at hnd
    have hfm : full.flatMap (({ D with cw := wr64 (D.cw + 1) } : Dv).put b P.buf).mblk = full.flatMap D.mblk := by
      rw [List.flatMap_def, List.flatMap_def]
      congr 1
      refine List.map_congr_left fun x hx => ?_
      rw [hmb, if_neg (hnd.2.2 x hx b (by simp))]
    refine ⟨{ W with buf := [], closed := true }, ({ D with cw := wr64 (D.cw + 1) } : Dv).put b P.buf, ?_, rfl, rfl, rfl, h.nf, ?_, ⟨rfl, rfl, rfl, rfl, rfl, rfl, rfl, rfl, rfl, ⟨[], by simp, fun x => by simp, fun b hb => by simp at hb⟩, ?_⟩, ⟨fun x hx => by show x < D.scr; rw [h.sc]; exact (h.bf x hx).1, h.nd, ⟨List.replicate (D.unit - W.buf.length) 0, ?_⟩, h.need⟩, ?_⟩
    · unfold wClose
      rw [if_neg e1, ← hP, hw, if_pos rfl, h.sz]
    · show (({ D with cw := wr64 (D.cw + 1) } : Dv).put b P.buf).mem.length = D.unit * D.scr
      have hle : b * D.unit + D.unit ≤ D.mem.length := by
        have := Nat.mul_le_mul_right D.unit (show b + 1 ≤ D.scr by omega)
        rw [Nat.add_mul, Nat.one_mul] at this
        rw [h.ml, Nat.mul_comm D.unit]
        exact this
      unfold Dv.put
      simp only [List.length_append, List.length_take, List.length_drop, hPl]
      have := h.ml
      omega
    · intro b' hb' hn'
      rw [hmb, if_neg (fun e' => hn' (by rw [e']; show b ∈ W.blocks; rw [e]; simp))]
    · rw [e, List.flatMap_append, hfm, List.flatMap_singleton, hmb, if_pos rfl, h.ac, hPb, List.append_assoc]
    · show wr64 (D.cw + 1) = _
      rw [hwr1, e]
      simp
      omega
/-- A file's bytes stay where the device is written beside it. -/
theorem FG.keep {D D' : Dv} {bl : List Nat} {c : List Int} (h : FG D bl c) (hu : D'.unit = D.unit) (hs : D'.scr = D.scr) (hk : ∀ b ∈ bl, D'.mblk b = D.mblk b) : FG D' bl c := by
  refine ⟨by rw [hs]; exact h.bs, h.nd, ?_, by rw [hu]; exact h.ln⟩
  obtain ⟨pad, hp⟩ := h.by'
  refine ⟨pad, ?_⟩
  rw [← hp, List.flatMap_def, List.flatMap_def]
  congr 1
  exact List.map_congr_left hk
/-- Dropping gives the blocks back. -/
theorem drop_eq (n : Nat) : ∀ (L : List Nat) (F : Int → Bool), L.Nodup → (∀ b ∈ L, b < n ∧ F (b : Int) = false) → (dropAll n F L).1 = 0 ∧ ∀ x, (dropAll n F L).2 x = (F x || L.any fun b => x == (b : Int)) := by
  suffices H : ∀ (m : Nat) (L : List Nat), L.length = m → ∀ (F : Int → Bool), L.Nodup → (∀ b ∈ L, b < n ∧ F (b : Int) = false) → (dropAll n F L).1 = 0 ∧ ∀ x, (dropAll n F L).2 x = (F x || L.any fun b => x == (b : Int)) from fun L => H L.length L rfl
  intro m
  induction m with
  | zero =>
    intro L hL F _ _
    rw [List.eq_nil_of_length_eq_zero hL]
    exact ⟨rfl, fun x => by simp [dropAll]⟩
  | succ m ihm =>
    intro L hL F hn hb
    obtain ⟨r, b, rfl⟩ : ∃ r b, L = r ++ [b] := ⟨L.dropLast, L.getLast (by intro h; rw [h] at hL; simp at hL), (List.dropLast_concat_getLast _).symm⟩
    have ih := fun F => ihm r (by simp at hL; exact hL) F
    rw [List.nodup_append] at hn
    obtain ⟨i1, i2⟩ := ih F hn.1 (fun x hx => hb x (List.mem_append_left _ hx))
    have hbb := hb b (by simp)
    have hnb : (dropAll n F r).2 (b : Int) = false := by
      rw [i2, hbb.2, Bool.false_or, List.any_eq_false]
      intro x hx e
      have e' : (b : Int) = (x : Int) := by simpa using e
      have : b = x := by omega
      exact hn.2.2 x hx b (by simp) this.symm
    rw [dropAll_snoc]
    unfold dropS
    refine ⟨?_, fun x => ?_⟩
    · rw [if_pos i1]
      unfold freeR
      rw [if_pos (by omega), hnb]
      rfl
    · show free1F n (dropAll n F r).2 (b : Int) x = _
      unfold free1F
      rw [i2, decide_eq_true (show 0 ≤ (b : Int) ∧ (b : Int) < (n : Int) by omega), List.any_append]
      simp [Bool.or_assoc]

end
end Go.Proofs.Ytkhejipcclpknaa
