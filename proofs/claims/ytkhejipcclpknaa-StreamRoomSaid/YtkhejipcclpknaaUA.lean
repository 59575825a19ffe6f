/- Writing on a device without faults, as plain data. No statement is proved here. -/
import Derived.Test.YtkhejipcclpknaaTE
import Derived.Test.YtkhejipcclpknaaExtQ
set_option linter.unusedVariables false
set_option linter.unusedSimpArgs false
namespace Go.Proofs.Ytkhejipcclpknaa

def NoF (D : Dv) : Prop := D.fs = [] ∧ D.down = false
theorem NoF.hit {D : Dv} (h : NoF D) (k b n : Int) : D.hit k b n = none := by
  unfold Dv.hit
  rw [h.1]
  rfl
theorem write_nf {D : Dv} (h : NoF D) {b : Nat} (hb : b < D.scr) (l : List Int) : D.write b l = (0, ({ D with cw := wr64 (D.cw + 1) } : Dv).put b l) := by
  unfold Dv.write
  rw [if_neg (by simp [h.2]), if_neg (by omega)]
  have h1 : NoF ({ D with cw := wr64 (D.cw + 1) } : Dv) := h
  rw [h1.hit]
  simp only
  rw [h1.hit]
  simp
theorem put_get {D : Dv} {b : Nat} {l : List Int} (hl : l.length = D.unit) (hb : b * D.unit + D.unit ≤ D.mem.length) (j : Nat) : (D.put b l).mem[j]? = if j < b * D.unit then D.mem[j]? else if j < b * D.unit + D.unit then l[j - b * D.unit]? else D.mem[j]? := by
  unfold Dv.put
  simp only
  have e1 : (D.mem.take (b * D.unit)).length = b * D.unit := by rw [List.length_take]; omega
  by_cases h1 : j < b * D.unit
  · rw [if_pos h1, List.append_assoc, List.getElem?_append_left (by omega), List.getElem?_take, if_pos h1]
  · rw [if_neg h1, List.append_assoc, List.getElem?_append_right (by omega), e1]
    by_cases h2 : j < b * D.unit + D.unit
    · rw [if_pos h2, List.getElem?_append_left (by omega)]
    · rw [if_neg h2, List.getElem?_append_right (by omega), List.getElem?_drop, hl]
      congr 1
      omega
theorem mblk_at (D : Dv) (b i : Nat) : (D.mblk b)[i]? = if i < D.unit then D.mem[b * D.unit + i]? else none := by
  unfold Dv.mblk
  rw [List.getElem?_take]
  split
  · rw [List.getElem?_drop]
  · rfl
theorem mblk_put {D : Dv} {b : Nat} {l : List Int} (hm : D.mem.length = D.unit * D.scr) (hb : b < D.scr) (hl : l.length = D.unit) (b' : Nat) : (D.put b l).mblk b' = if b' = b then l else D.mblk b' := by
  have hle : b * D.unit + D.unit ≤ D.mem.length := by
    have := Nat.mul_le_mul_right D.unit (show b + 1 ≤ D.scr by omega)
    rw [Nat.add_mul, Nat.one_mul] at this
    rw [hm, Nat.mul_comm D.unit]
    exact this
  have hu : (D.put b l).unit = D.unit := rfl
  apply List.ext_getElem?
  intro i
  rw [mblk_at, hu]
  by_cases hi : i < D.unit
  · rw [if_pos hi, put_get hl hle]
    by_cases hbb : b' = b
    · subst hbb
      rw [if_pos rfl, if_neg (by omega), if_pos (by omega)]
      congr 1
      omega
    · rw [if_neg hbb, mblk_at, if_pos hi]
      rcases Nat.lt_or_gt_of_ne hbb with h | h
      · have := Nat.mul_le_mul_right D.unit (show b' + 1 ≤ b by omega)
        rw [Nat.add_mul, Nat.one_mul] at this
        rw [if_pos (by omega)]
      · have := Nat.mul_le_mul_right D.unit (show b + 1 ≤ b' by omega)
        rw [Nat.add_mul, Nat.one_mul] at this
        rw [if_neg (by omega), if_neg (by omega)]
  · rw [if_neg hi]
    split
    · rw [List.getElem?_eq_none (by omega)]
    · rw [mblk_at, if_neg hi]
/-- A writer, its device and its space, and the bytes that it has taken. -/
structure WG (n : Nat) (W : Wt) (D : Dv) (F : Int → Bool) (acc : List Int) (full : List Nat) : Prop where
  nf : NoF D
  u : W.unit = D.unit
  u0 : 0 < D.unit
  ml : D.mem.length = D.unit * D.scr
  sc : D.scr = n
  sz : W.size = (acc.length : Int)
  bk : (W.buf = [] ∧ W.blocks = full) ∨ (W.buf ≠ [] ∧ ∃ b, W.blocks = full ++ [b])
  ac : acc = full.flatMap D.mblk ++ W.buf
  bu : W.buf.length < D.unit
  nd : W.blocks.Nodup
  bf : ∀ b ∈ W.blocks, b < n ∧ F (b : Int) = false
theorem flat_len {D : Dv} (hm : D.mem.length = D.unit * D.scr) : ∀ {l : List Nat}, (∀ b ∈ l, b < D.scr) → (l.flatMap D.mblk).length = l.length * D.unit
  | [], _ => by simp
  | b :: r, h => by
    rw [List.flatMap_cons, List.length_append, flat_len hm (fun x hx => h x (List.mem_cons_of_mem _ hx)), mblk_len hm (h b (by simp)), List.length_cons, Nat.add_mul, Nat.one_mul, Nat.add_comm]
theorem WG.fb {n : Nat} {W : Wt} {D : Dv} {F : Int → Bool} {acc : List Int} {full : List Nat} (h : WG n W D F acc full) : ∀ b ∈ full, b ∈ W.blocks := fun b hb => by
  rcases h.bk with ⟨_, e⟩ | ⟨_, x, e⟩
  · rw [e]; exact hb
  · rw [e]; exact List.mem_append_left _ hb
theorem WG.len {n : Nat} {W : Wt} {D : Dv} {F : Int → Bool} {acc : List Int} {full : List Nat} (h : WG n W D F acc full) : acc.length = full.length * D.unit + W.buf.length := by
  have := flat_len h.ml (l := full) (fun b hb => by rw [h.sc]; exact (h.bf b (h.fb b hb)).1)
  rw [h.ac, List.length_append, this]
/-- What writing leaves as it was. -/
structure WSt (D D' : Dv) (F F' : Int → Bool) (W W' : Wt) : Prop where
  un : D'.unit = D.unit
  sc : D'.scr = D.scr
  ip : D'.inp = D.inp
  ci : D'.ci = D.ci
  cs : D'.cs = D.cs
  ck : D'.ck = D.ck
  rd : D'.rd = D.rd
  fa : W'.fault = W.fault
  cl : W'.closed = W.closed
  nb : ∃ N : List Nat, W'.blocks = W.blocks ++ N ∧ (∀ x, F' x = (F x && !(N.any fun b => x == (b : Int)))) ∧ ∀ b ∈ N, F (b : Int) = true
  kp : ∀ b, b < D.scr → b ∉ W'.blocks → D'.mblk b = D.mblk b
theorem WSt.refl (D : Dv) (F : Int → Bool) (W : Wt) : WSt D D F F W W := ⟨rfl, rfl, rfl, rfl, rfl, rfl, rfl, rfl, rfl, ⟨[], by simp, fun x => by simp, fun b hb => by simp at hb⟩, fun _ _ _ => rfl⟩
theorem WSt.trans {D D1 D2 : Dv} {F F1 F2 : Int → Bool} {W W1 W2 : Wt} (h : WSt D D1 F F1 W W1) (k : WSt D1 D2 F1 F2 W1 W2) : WSt D D2 F F2 W W2 := by
  obtain ⟨N, n1, n2, n3⟩ := h.nb
  obtain ⟨M, m1, m2, m3⟩ := k.nb
  refine ⟨k.un.trans h.un, k.sc.trans h.sc, k.ip.trans h.ip, k.ci.trans h.ci, k.cs.trans h.cs, k.ck.trans h.ck, k.rd.trans h.rd, k.fa.trans h.fa, k.cl.trans h.cl, ⟨N ++ M, by rw [m1, n1, List.append_assoc], fun x => ?_, fun b hb => ?_⟩, fun b hb hn => ?_⟩
  · rw [m2, n2, List.any_append, Bool.not_or, Bool.and_assoc]
  · rcases List.mem_append.1 hb with hb | hb
    · exact n3 b hb
    · have := m3 b hb
      rw [n2, Bool.and_eq_true] at this
      exact this.1
  · rw [k.kp b (by rw [h.sc]; exact hb) hn, h.kp b hb (fun hh => hn (by rw [m1]; exact List.mem_append_left _ hh))]
theorem cnt_pos {F : Int → Bool} : ∀ {n : Nat}, 0 < cntB F n → ∃ b : Nat, b < n ∧ F (b : Int) = true
  | 0, h => by simp [cntB] at h
  | n + 1, h => by
    unfold cntB at h
    by_cases hb : F (n : Int) = true
    · exact ⟨n, by omega, hb⟩
    · rw [if_neg hb] at h
      obtain ⟨b, h1, h2⟩ := cnt_pos (F := F) (n := n) (by omega)
      exact ⟨b, by omega, h2⟩
theorem cnt_take {F : Int → Bool} {b : Nat} (hF : F (b : Int) = true) : ∀ {n : Nat}, cntB (takeF F b) n = cntB F n - if b < n then 1 else 0
  | 0 => by simp [cntB]
  | n + 1 => by
    unfold cntB
    rw [cnt_take hF (n := n)]
    unfold takeF
    by_cases hb : b = n
    · subst hb
      simp [hF]
    · have h1 : ((n : Int) == (b : Int)) = false := beq_eq_false_iff_ne.mpr (by omega)
      rw [h1]
      simp only [Bool.not_false, Bool.and_true]
      have h2 : (b < n + 1) = (b < n) := by
        apply propext
        omega
      simp only [h2]
      omega
theorem cntB_nonneg (F : Int → Bool) : ∀ n, 0 ≤ cntB F n
  | 0 => by simp [cntB]
  | n + 1 => by
    unfold cntB
    have := cntB_nonneg F n
    split <;> omega
theorem allocB_some {n : Nat} {F : Int → Bool} (h : 0 < cntB F n) : ∃ b, allocB n F = some b ∧ b < n ∧ F (b : Int) = true := by
  obtain ⟨b, h1, h2⟩ := cnt_pos h
  unfold allocB
  cases hf : (List.range n).find? fun (b : Nat) => F (b : Int) with
  | none =>
    rw [List.find?_eq_none] at hf
    exact absurd h2 (by simpa using hf b (by simpa using h1))
  | some x =>
    have e1 := List.find?_some hf
    have e2 := List.mem_of_find?_eq_some hf
    exact ⟨x, rfl, by simpa using e2, e1⟩
end Go.Proofs.Ytkhejipcclpknaa
