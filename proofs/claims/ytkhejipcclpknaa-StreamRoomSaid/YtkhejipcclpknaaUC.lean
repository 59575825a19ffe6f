/- Writing without room, closing, dropping, as plain data. No statement is proved here. -/
import Derived.Test.YtkhejipcclpknaaUB
import Derived.Test.YtkhejipcclpknaaST
set_option linter.unusedVariables false
set_option linter.unusedSimpArgs false
namespace Go.Proofs.Ytkhejipcclpknaa

theorem freeAll_eq (n : Nat) : ∀ (L : List Nat) (F : Int → Bool), (∀ b ∈ L, b < n) → ∀ x, freeAll n F L x = (F x || L.any fun b => x == (b : Int))
  | [], F, _, x => by simp [freeAll]
  | b :: r, F, h, x => by
    have e : freeAll n F (b :: r) = freeAll n (free1F n F (b : Int)) r := rfl
    rw [e, freeAll_eq n r _ (fun y hy => h y (List.mem_cons_of_mem _ hy))]
    have hb := h b (by simp)
    unfold free1F
    rw [decide_eq_true (show 0 ≤ (b : Int) ∧ (b : Int) < (n : Int) by omega), List.any_cons, Bool.true_and, Bool.or_assoc]
/-- Write where there is no room. -/
theorem write_short (n : Nat) : ∀ (m : Nat) (l : List Int), l.length ≤ m → ∀ (W : Wt) (D : Dv) (F : Int → Bool) (acc : List Int) (full : List Nat), WG n W D F acc full → (cntB F n + W.blocks.length) * D.unit < ((acc.length + l.length : Nat) : Int) → 0 ≤ D.cw → D.cw + l.length ≤ 1000000000000 →
    ∃ (W' : Wt) (D' : Dv) (F' : Int → Bool), wWrite n W D F l = (42, W'.spoil 42, D', F') ∧ W'.closed = W.closed ∧ W'.unit = W.unit ∧ (∀ x, F' x = (F x || W.blocks.any fun b => x == (b : Int))) ∧ NoF D' ∧ D.cw ≤ D'.cw ∧ D'.cw ≤ D.cw + l.length
  | m, [], _, W, D, F, acc, full, h, hr, h0, h1 => by
    exfalso
    have hal := h.len
    have hu := h.bu
    have hcn := cntB_nonneg F n
    have e2 : ((full.length * D.unit : Nat) : Int) = (full.length : Int) * D.unit := Int.natCast_mul _ _
    simp at hr
    rcases h.bk with ⟨e1, e⟩ | ⟨e1, b, e⟩
    · have : (full.length : Int) * D.unit ≤ (cntB F n + W.blocks.length) * D.unit := Int.mul_le_mul_of_nonneg_right (by rw [e]; omega) (by omega)
      rw [e1] at hal
      simp at hal
      omega
    · have : ((full.length : Int) + 1) * D.unit ≤ (cntB F n + W.blocks.length) * D.unit := Int.mul_le_mul_of_nonneg_right (by rw [e]; simp; omega) (by omega)
      rw [Int.add_mul] at this
      omega
  | 0, x :: l, hm, _, _, _, _, _, _, _, _, _ => by simp at hm
  | m + 1, x :: l, hm, W, D, F, acc, full, h, hr, h0, h1 => by
    obtain ⟨l', hl'⟩ : ∃ l', l' = x :: l := ⟨_, rfl⟩
    rw [← hl'] at hm hr h1 ⊢
    have hne : l' ≠ [] := by rw [hl']; simp
    have hpos : 1 ≤ l'.length := by rw [hl']; simp
    have hu := h.u0
    by_cases hno : W.buf = [] ∧ cntB F n ≤ 0
    · have hw := wWrite_none (D := D) hne (mid_none (n := n) hno.1 hno.2)
      exact ⟨W, D, freeAll n F W.blocks, hw, rfl, rfl, freeAll_eq n W.blocks F (fun b hb => (h.bf b hb).1), h.nf, Int.le_refl _, by omega⟩
    · obtain ⟨W1, D1, F1, f1, K, k1, k2, k3, k4, k5, k6, k7, k8, k9⟩ := wr_round h hne (fun hb => by
        rcases Int.lt_or_le 0 (cntB F n) with hc | hc
        · exact hc
        · exact absurd ⟨hb, hc⟩ hno) h0 (by omega)
      have hd : (l'.drop K).length = l'.length - K := List.length_drop
      have ht : (l'.take K).length = K := by rw [List.length_take]; omega
      obtain ⟨W2, D2, F2, j1, j2, j2', j3, j4, j5, j6⟩ := write_short n m (l'.drop K) (by omega) W1 D1 F1 _ f1 k4 (by
        rw [List.length_append, ht, hd, k7, k5.un]
        have : acc.length + K + (l'.length - K) = acc.length + l'.length := by omega
        rw [this]
        exact hr) (by omega) (by omega)
      obtain ⟨N, n1, n2, n3⟩ := k5.nb
      refine ⟨W2, D2, F2, k3.trans j1, j2.trans k5.cl, ?_, fun x => ?_, j4, by omega, by omega⟩
      · rw [j2', k4.u, h.u, k5.un]
      · rw [j3, n1, n2, List.any_append]
        cases hN : N.any fun b => x == (b : Int) with
        | false => simp
        | true =>
          rw [List.any_eq_true] at hN
          obtain ⟨b, hb, hx⟩ := hN
          have hxb : x = (b : Int) := by simpa using hx
          have := n3 b hb
          rw [← hxb] at this
          simp [this]
/-- A file that has been written: its blocks and its bytes. -/
structure FG (D : Dv) (bl : List Nat) (c : List Int) : Prop where
  bs : ∀ b ∈ bl, b < D.scr
  nd : bl.Nodup
  by' : ∃ pad, bl.flatMap D.mblk = c ++ pad
  ln : bl.length = needN c.length D.unit
theorem need_exact {a k u : Nat} (hu : 0 < u) (h : a = k * u) : needN a u = k := by
  subst h
  unfold needN
  rw [Nat.mul_div_cancel _ hu, Nat.mul_mod_left]
  simp
theorem need_part {a k r u : Nat} (hu : r < u) (h : a = k * u + r) (hr : 0 < r) : needN a u = k + 1 := by
  subst h
  unfold needN
  have e1 : (k * u + r) / u = k := by
    rw [Nat.add_comm, Nat.add_mul_div_right _ _ (by omega), Nat.div_eq_of_lt hu]
    omega
  have e2 : (k * u + r) % u = r := by
    rw [Nat.add_comm, Nat.add_mul_mod_self_right, Nat.mod_eq_of_lt hu]
  rw [e1, e2, if_pos hr]
theorem WG.need {n : Nat} {W : Wt} {D : Dv} {F : Int → Bool} {acc : List Int} {full : List Nat} (h : WG n W D F acc full) : W.blocks.length = needN acc.length D.unit := by
  have hal := h.len
  rcases h.bk with ⟨e1, e⟩ | ⟨e1, b, e⟩
  · rw [e1] at hal
    rw [e, need_exact h.u0 (by simpa using hal)]
  · rw [e, need_part h.bu hal (List.length_pos_iff.2 e1)]
    simp
/-- Close where nothing fails. -/
theorem close_room {n : Nat} {W : Wt} {D : Dv} {F : Int → Bool} {acc : List Int} {full : List Nat} (h : WG n W D F acc full) (h0 : 0 ≤ D.cw) (h1 : D.cw ≤ 1000000000000) :
    ∃ W' D', wClose n W D F = (0, (W.blocks, (acc.length : Int)), W', D', F) ∧ W'.closed = true ∧ W'.fault = W.fault ∧ W'.size = W.size ∧ NoF D' ∧ D'.mem.length = D'.unit * D'.scr ∧ WSt D D' F F W { W with closed := W.closed } ∧ FG D' W.blocks acc ∧ D'.cw = D.cw - full.length + W.blocks.length := by
  rcases h.bk with ⟨e1, e⟩ | ⟨e1, b, e⟩
  · refine ⟨{ W with closed := true }, D, by unfold wClose; rw [if_pos e1, h.sz], rfl, rfl, rfl, h.nf, h.ml, WSt.refl _ _ _, ⟨fun b hb => by rw [h.sc]; exact (h.bf b hb).1, h.nd, ⟨[], ?_⟩, h.need⟩, by rw [e]; omega⟩
    rw [h.ac, e1, e, List.append_nil, List.append_nil]
  · obtain ⟨P, hP⟩ : ∃ P, P = wPad W (W.unit - W.buf.length) := ⟨_, rfl⟩
    have hPb : P.buf = W.buf ++ List.replicate (D.unit - W.buf.length) 0 := by rw [hP, ← h.u]; rfl
    have hPl : P.buf.length = D.unit := by rw [hPb]; simp; have := h.bu; omega
    have hbs : b < D.scr := by rw [h.sc]; exact (h.bf b (by rw [e]; simp)).1
    have hlast : P.blocks.getLast? = some b := by rw [hP]; show W.blocks.getLast? = _; rw [e]; simp
    have hw : wFlush n P D F = (0, { P with buf := [] }, ({ D with cw := wr64 (D.cw + 1) } : Dv).put b P.buf, F) := by
      unfold wFlush
      rw [hlast]
      simp only
      rw [write_nf h.nf hbs]
      rfl
    have hwr1 : wr64 (D.cw + 1) = D.cw + 1 := wr_id (by omega) (by omega)
    have hmb : ∀ b', (({ D with cw := wr64 (D.cw + 1) } : Dv).put b P.buf).mblk b' = if b' = b then P.buf else D.mblk b' := fun b' => mblk_put (D := { D with cw := wr64 (D.cw + 1) }) h.ml hbs hPl b'
    have hnd := h.nd
    rw [e, List.nodup_append] at hnd
    have hfm : full.flatMap (({ D with cw := wr64 (D.cw + 1) } : Dv).put b P.buf).mblk = full.flatMap D.mblk := by
      rw [List.flatMap_def, List.flatMap_def]
      congr 1
      refine List.map_congr_left fun x hx => ?_
      rw [hmb, if_neg (hnd.2.2 x hx b (by simp))]
    refine ⟨{ W with buf := [], closed := true }, ({ D with cw := wr64 (D.cw + 1) } : Dv).put b P.buf, ?_, rfl, rfl, rfl, h.nf, ?_, ⟨rfl, rfl, rfl, rfl, rfl, rfl, rfl, rfl, rfl, ⟨[], by simp, fun x => by simp, fun b hb => by simp at hb⟩, ?_⟩, ⟨fun x hx => by show x < D.scr; rw [h.sc]; exact (h.bf x hx).1, h.nd, ⟨List.replicate (D.unit - W.buf.length) 0, ?_⟩, h.need⟩, ?_⟩
    · unfold wClose
      rw [if_neg e1, ← hP, hw, if_pos rfl, h.sz]
    · show (({ D with cw := wr64 (D.cw + 1) } : Dv).put b P.buf).mem.length = D.unit * D.scr
      have hle : b * D.unit + D.unit ≤ D.mem.length := by
        have := Nat.mul_le_mul_right D.unit (show b + 1 ≤ D.scr by omega)
        rw [Nat.add_mul, Nat.one_mul] at this
        rw [h.ml, Nat.mul_comm D.unit]
        exact this
      unfold Dv.put
      simp only [List.length_append, List.length_take, List.length_drop, hPl]
      have := h.ml
      omega
    · intro b' hb' hn'
      rw [hmb, if_neg (fun e' => hn' (by rw [e']; show b ∈ W.blocks; rw [e]; simp))]
    · rw [e, List.flatMap_append, hfm, List.flatMap_singleton, hmb, if_pos rfl, h.ac, hPb, List.append_assoc]
    · show wr64 (D.cw + 1) = _
      rw [hwr1, e]
      simp
      omega
/-- A file's bytes stay where the device is written beside it. -/
theorem FG.keep {D D' : Dv} {bl : List Nat} {c : List Int} (h : FG D bl c) (hu : D'.unit = D.unit) (hs : D'.scr = D.scr) (hk : ∀ b ∈ bl, D'.mblk b = D.mblk b) : FG D' bl c := by
  refine ⟨by rw [hs]; exact h.bs, h.nd, ?_, by rw [hu]; exact h.ln⟩
  obtain ⟨pad, hp⟩ := h.by'
  refine ⟨pad, ?_⟩
  rw [← hp, List.flatMap_def, List.flatMap_def]
  congr 1
  exact List.map_congr_left hk
/-- Dropping gives the blocks back. -/
theorem drop_eq (n : Nat) : ∀ (L : List Nat) (F : Int → Bool), L.Nodup → (∀ b ∈ L, b < n ∧ F (b : Int) = false) → (dropAll n F L).1 = 0 ∧ ∀ x, (dropAll n F L).2 x = (F x || L.any fun b => x == (b : Int)) := by
  suffices H : ∀ (m : Nat) (L : List Nat), L.length = m → ∀ (F : Int → Bool), L.Nodup → (∀ b ∈ L, b < n ∧ F (b : Int) = false) → (dropAll n F L).1 = 0 ∧ ∀ x, (dropAll n F L).2 x = (F x || L.any fun b => x == (b : Int)) from fun L => H L.length L rfl
  intro m
  induction m with
  | zero =>
    intro L hL F _ _
    rw [List.eq_nil_of_length_eq_zero hL]
    exact ⟨rfl, fun x => by simp [dropAll]⟩
  | succ m ihm =>
    intro L hL F hn hb
    obtain ⟨r, b, rfl⟩ : ∃ r b, L = r ++ [b] := ⟨L.dropLast, L.getLast (by intro h; rw [h] at hL; simp at hL), (List.dropLast_concat_getLast _).symm⟩
    have ih := fun F => ihm r (by simp at hL; exact hL) F
    rw [List.nodup_append] at hn
    obtain ⟨i1, i2⟩ := ih F hn.1 (fun x hx => hb x (List.mem_append_left _ hx))
    have hbb := hb b (by simp)
    have hnb : (dropAll n F r).2 (b : Int) = false := by
      rw [i2, hbb.2, Bool.false_or, List.any_eq_false]
      intro x hx e
      have e' : (b : Int) = (x : Int) := by simpa using e
      have : b = x := by omega
      exact hn.2.2 x hx b (by simp) this.symm
    rw [dropAll_snoc]
    unfold dropS
    refine ⟨?_, fun x => ?_⟩
    · rw [if_pos i1]
      unfold freeR
      rw [if_pos (by omega), hnb]
      rfl
    · show free1F n (dropAll n F r).2 (b : Int) x = _
      unfold free1F
      rw [i2, decide_eq_true (show 0 ≤ (b : Int) ∧ (b : Int) < (n : Int) by omega), List.any_append]
      simp [Bool.or_assoc]
end Go.Proofs.Ytkhejipcclpknaa
