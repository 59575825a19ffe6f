/- Reading on a device without faults, as plain data. No statement is proved here. -/
import Derived.Test.YtkhejipcclpknaaUA
import Derived.Test.YtkhejipcclpknaaTG
set_option linter.unusedVariables false
set_option linter.unusedSimpArgs false
namespace Go.Proofs.Ytkhejipcclpknaa

theorem readB_nf {D : Dv} (h : NoF D) (k b : Int) : D.readB k b = true := by
  unfold Dv.readB
  have h1 : NoF (D.bump k b) := h
  rw [h1.hit]
  rfl
theorem readD_nf {D : Dv} (h : NoF D) (k b : Int) : D.readD k b = D.bump k b := by
  unfold Dv.readD
  rw [if_pos (readB_nf h k b)]
theorem readIn_nf {D : Dv} (h : NoF D) {b : Nat} (hb : b < D.blocks) : D.readIn b = (0, D.slab b, ({ D with ci := wr64 (D.ci + 1) } : Dv).bump 1 b) := by
  have h1 : NoF ({ D with ci := wr64 (D.ci + 1) } : Dv) := h
  unfold Dv.readIn
  rw [if_neg (by simp [h.2]), if_neg (by omega), if_pos (readB_nf h1 _ _), readD_nf h1]
  rfl
theorem readSc_nf {D : Dv} (h : NoF D) {b : Nat} (hb : b < D.scr) : D.readSc b = (0, D.mblk b, ({ D with cs := wr64 (D.cs + 1) } : Dv).bump 2 b) := by
  have h1 : NoF ({ D with cs := wr64 (D.cs + 1) } : Dv) := h
  unfold Dv.readSc
  rw [if_neg (by simp [h.2]), if_neg (by omega), if_pos (readB_nf h1 _ _), readD_nf h1]
  rfl
/-- What reading leaves as it was; m blocks are read. -/
structure RSt (ch : Bool) (m : Int) (D D' : Dv) : Prop where
  un : D'.unit = D.unit
  sc : D'.scr = D.scr
  ip : D'.inp = D.inp
  me : D'.mem = D.mem
  fs : D'.fs = D.fs
  dn : D'.down = D.down
  ck : D'.ck = D.ck
  cw : D'.cw = D.cw
  ci : D'.ci = D.ci + if ch then 0 else m
  cs : D'.cs = D.cs + if ch then m else 0
theorem RSt.refl (ch : Bool) (D : Dv) : RSt ch 0 D D := ⟨rfl, rfl, rfl, rfl, rfl, rfl, rfl, rfl, by simp, by simp⟩
theorem RSt.trans {ch : Bool} {m k : Int} {D D1 D2 : Dv} (h : RSt ch m D D1) (j : RSt ch k D1 D2) : RSt ch (m + k) D D2 :=
  ⟨j.un.trans h.un, j.sc.trans h.sc, j.ip.trans h.ip, j.me.trans h.me, j.fs.trans h.fs, j.dn.trans h.dn, j.ck.trans h.ck, j.cw.trans h.cw, by rw [j.ci, h.ci]; split <;> omega, by rw [j.cs, h.cs]; split <;> omega⟩
theorem RSt.nf {ch : Bool} {m : Int} {D D' : Dv} (h : RSt ch m D D') (hn : NoF D) : NoF D' := ⟨h.fs.trans hn.1, h.dn.trans hn.2⟩
theorem RSt.mb {ch : Bool} {m : Int} {D D' : Dv} (h : RSt ch m D D') (b : Nat) : D'.mblk b = D.mblk b := by unfold Dv.mblk; rw [h.me, h.un]
theorem RSt.sl {ch : Bool} {m : Int} {D D' : Dv} (h : RSt ch m D D') (b : Nat) : D'.slab b = D.slab b := by unfold Dv.slab; rw [h.ip, h.un]
/-- The bytes that a reader is to tell. -/
structure RC (R : Rd) (D : Dv) (c : List Int) : Prop where
  nf : NoF D
  ok : RdOk R D
  u0 : 0 < D.unit
  ml : D.mem.length = D.unit * D.scr
  sz : c.length = R.size
  src : match R.chain with
    | none => c = D.inp
    | some l => ∃ pad, l.flatMap D.mblk = c ++ pad
  hb : ∀ b : Nat, R.held = (b : Int) → R.buf.take (R.size - b * D.unit) = (c.drop (b * D.unit)).take D.unit
theorem flat_get {D : Dv} (hm : D.mem.length = D.unit * D.scr) : ∀ {l : List Nat}, (∀ b ∈ l, b < D.scr) → ∀ (i : Nat) (hi : i < l.length), ((l.flatMap D.mblk).drop (i * D.unit)).take D.unit = D.mblk l[i]
  | [], _, i, hi => by simp at hi
  | b :: r, h, 0, _ => by
    rw [Nat.zero_mul, List.drop_zero, List.flatMap_cons, List.take_append_of_le_length (by rw [mblk_len hm (h b (by simp))]; exact Nat.le_refl _), List.take_of_length_le (by rw [mblk_len hm (h b (by simp))]; exact Nat.le_refl _)]
    rfl
  | b :: r, h, i + 1, hi => by
    have hl := mblk_len hm (h b (by simp))
    rw [List.flatMap_cons, Nat.add_mul, Nat.one_mul, Nat.add_comm, ← List.drop_drop, List.drop_left' hl]
    exact flat_get hm (fun x hx => h x (List.mem_cons_of_mem _ hx)) i (by simpa using hi)
theorem fetch_nf {R : Rd} {D : Dv} {c : List Int} (h : RC R D c) {b : Nat} (hb : b * D.unit < R.size) (hc : 0 ≤ D.ci ∧ D.ci ≤ 1000000000000 ∧ 0 ≤ D.cs ∧ D.cs ≤ 1000000000000) :
    (R.fetch D b).1 = 0 ∧ (R.fetch D b).2.1.take (R.size - b * D.unit) = (c.drop (b * D.unit)).take D.unit ∧ RSt R.chain.isSome 1 D (R.fetch D b).2.2 := by
  have hs := h.src
  have ho := h.ok.src
  have hz := h.sz
  have hu := h.u0
  unfold Rd.fetch
  cases hch : R.chain with
  | none =>
    rw [hch] at hs ho
    simp only at hs ho ⊢
    have hbb : b < D.blocks := by
      unfold Dv.blocks
      have : b + 1 ≤ (D.inp.length + D.unit - 1) / D.unit := (Nat.le_div_iff_mul_le hu).2 (by rw [Nat.add_mul, Nat.one_mul]; omega)
      omega
    rw [readIn_nf h.nf hbb]
    refine ⟨rfl, ?_, ⟨rfl, rfl, rfl, rfl, rfl, rfl, rfl, rfl, ?_, by simp; rfl⟩⟩
    · rw [hs]
      unfold Dv.slab
      rw [List.take_take, ho]
      by_cases hl : D.inp.length - b * D.unit ≤ D.unit
      · rw [Nat.min_eq_left hl, List.take_of_length_le (by rw [List.length_drop]; exact Nat.le_refl _), List.take_of_length_le (by rw [List.length_drop]; exact hl)]
      · rw [Nat.min_eq_right (by omega)]
    · show wr64 (D.ci + 1) = _
      rw [wr_id (by omega) (by omega)]
      simp
  | some l =>
    rw [hch] at hs ho
    simp only at hs ho ⊢
    have hbl : b < l.length := Nat.lt_of_mul_lt_mul_right (Nat.lt_of_lt_of_le hb ho.1)
    rw [List.getElem?_eq_getElem hbl, Option.getD_some, readSc_nf h.nf (ho.2.1 _ (List.getElem_mem hbl))]
    refine ⟨rfl, ?_, ⟨rfl, rfl, rfl, rfl, rfl, rfl, rfl, rfl, by simp; rfl, ?_⟩⟩
    · obtain ⟨pad, hp⟩ := hs
      have hg := flat_get h.ml ho.2.1 b hbl
      rw [hp] at hg
      show (D.mblk l[b]).take _ = _
      rw [← hg, List.take_take, ← hz, List.drop_append_of_le_length (by omega)]
      rw [List.take_append_of_le_length (by rw [List.length_drop]; omega)]
      by_cases hl : c.length - b * D.unit ≤ D.unit
      · rw [Nat.min_eq_left hl, List.take_of_length_le (by rw [List.length_drop]; exact Nat.le_refl _), List.take_of_length_le (by rw [List.length_drop]; exact hl)]
      · rw [Nat.min_eq_right (by omega)]
    · show wr64 (D.cs + 1) = _
      rw [wr_id (by omega) (by omega)]
      simp
theorem RC.keep {R : Rd} {D D' : Dv} {c : List Int} {ch : Bool} {m : Int} (h : RC R D c) (k : RSt ch m D D') : RC R D' c := by
  refine ⟨k.nf h.nf, ⟨h.ok.u.trans k.un.symm, h.ok.sz, h.ok.pos, ?_, by rw [k.un]; exact h.ok.hb⟩, by rw [k.un]; exact h.u0, by rw [k.me, k.un, k.sc]; exact h.ml, h.sz, ?_, by rw [k.un]; exact h.hb⟩
  · rw [k.ip, k.un, k.sc]
    exact h.ok.src
  · rw [k.ip, show D'.mblk = D.mblk from funext k.mb]
    exact h.src
/-- The block that is held behind a place. -/
def hd (u a : Nat) : Int := if a = 0 then -1 else (((a - 1) / u : Nat) : Int)
theorem hd_step {u a k : Nat} (hu : 0 < u) (h1 : 1 ≤ k) (h2 : k ≤ u - a % u) : hd u (a + k) = ((a / u : Nat) : Int) := by
  unfold hd
  rw [if_neg (by omega)]
  have hdm := Nat.div_add_mod a u
  have hm := Nat.mod_lt a hu
  have e1 : a + k - 1 = (a % u + k - 1) + u * (a / u) := by omega
  rw [e1, Nat.add_mul_div_left _ _ hu, Nat.div_eq_of_lt (by omega), Nat.zero_add]
theorem hd_next {u a : Nat} (hu : 0 < u) : hd u a = ((a / u : Nat) : Int) ∨ hd u a = ((a / u : Nat) : Int) - 1 := by
  unfold hd
  by_cases ha : a = 0
  · subst ha
    rw [if_pos rfl, Nat.zero_div]
    right
    rfl
  · rw [if_neg ha]
    have h1 : (a - 1) / u ≤ a / u := Nat.div_le_div_right (by omega)
    have h2 : a / u ≤ (a - 1) / u + 1 := by
      rw [← Nat.add_div_right _ hu]
      exact Nat.div_le_div_right (by omega)
    omega
/-- The block is held, or is read. -/
theorem hold_nf {R : Rd} {D : Dv} {c : List Int} (h : RC R D c) {a : Nat} (ha : a < R.size) (hh : R.held = hd D.unit a) (hc : 0 ≤ D.ci ∧ D.ci ≤ 1000000000000 ∧ 0 ≤ D.cs ∧ D.cs ≤ 1000000000000) :
    (R.hold D (a / D.unit)).1 = 0 ∧ RC (R.hold D (a / D.unit)).2.1 (R.hold D (a / D.unit)).2.2 c ∧ (R.hold D (a / D.unit)).2.1.held = ((a / D.unit : Nat) : Int) ∧ (R.hold D (a / D.unit)).2.1.pos = R.pos ∧ (R.hold D (a / D.unit)).2.1.size = R.size ∧ (R.hold D (a / D.unit)).2.1.chain = R.chain ∧ (R.hold D (a / D.unit)).2.1.fault = R.fault ∧
    RSt R.chain.isSome (((a / D.unit : Nat) : Int) - hd D.unit a) D (R.hold D (a / D.unit)).2.2 := by
  obtain ⟨b, hb⟩ : ∃ b, b = a / D.unit := ⟨_, rfl⟩
  have hdm := Nat.div_add_mod a D.unit
  have hbs : b * D.unit < R.size := by rw [hb, Nat.mul_comm]; omega
  obtain ⟨f1, f2, f3⟩ := fetch_nf h hbs hc
  have hst : ((b : Nat) : Int) - hd D.unit a = if ((b : Nat) : Int) = R.held then 0 else 1 := by
    rw [hh]
    rcases hd_next (u := D.unit) (a := a) h.u0 with e | e
    · rw [← hb] at e
      rw [e, if_pos rfl]
      omega
    · rw [← hb] at e
      rw [e, if_neg (by omega)]
      omega
  rw [← hb]
  have h0 : (R.hold D b).1 = 0 := by
    unfold Rd.hold
    split
    · rfl
    · first
      | rfl
      | (rw [if_pos f1])
  have hok := hold_ok h.ok h.ml h.u0 hbs h0
  by_cases he : ((b : Nat) : Int) = R.held
  · rw [if_pos he] at hst
    have e1 : R.hold D b = (0, R, D) := by unfold Rd.hold; rw [if_pos he]
    rw [hst, e1]
    exact ⟨rfl, h, he.symm, rfl, rfl, rfl, rfl, RSt.refl _ _⟩
  · rw [if_neg he] at hst
    have e1 : R.hold D b = (0, { R with buf := (R.fetch D b).2.1, held := (b : Int) }, (R.fetch D b).2.2) := by
      unfold Rd.hold
      rw [if_neg he, if_pos f1]
    rw [e1] at hok
    rw [hst, e1]
    have hk := h.keep f3
    refine ⟨rfl, ⟨hk.nf, hok.1, hk.u0, hk.ml, h.sz, hk.src, fun b' hb' => ?_⟩, rfl, rfl, rfl, rfl, rfl, f3⟩
    have : b = b' := by
      have e2 : (b : Int) = (b' : Int) := hb'
      omega
    subst this
    rw [f3.un]
    exact f2
/-- Read's loop where nothing fails. -/
theorem run_nf : ∀ (m : Nat) (R : Rd) (D : Dv) (c : List Int) (a z : Nat) (out : List Int), z - a ≤ m → a ≤ z → z ≤ R.size → RC R D c → R.held = hd D.unit a → 0 ≤ D.ci ∧ D.ci + (z - a : Nat) ≤ 1000000000000 ∧ 0 ≤ D.cs ∧ D.cs + (z - a : Nat) ≤ 1000000000000 →
    ∃ R' D', rdRun R D a z out = (0, out ++ (c.drop a).take (z - a), R', D') ∧ RC R' D' c ∧ R'.held = hd D.unit z ∧ R'.pos = R.pos ∧ R'.size = R.size ∧ R'.chain = R.chain ∧ R'.fault = R.fault ∧ RSt R.chain.isSome (hd D.unit z - hd D.unit a) D D'
  | m, R, D, c, a, z, out, hm, haz, hz, h, hh, hc => by
    by_cases hlt : a < z
    · match m, hm with
      | 0, hm => omega
      | m + 1, hm =>
        obtain ⟨h1, h2, h3, h4, h5, h6, h7, h8⟩ := hold_nf h (show a < R.size by omega) hh (by omega)
        have hu : R.unit = D.unit := h.ok.u
        have hk := rK_pos (R := R) (by rw [hu]; exact h.u0) hlt
        have hk2 : rK R a z ≤ D.unit - a % D.unit := by unfold rK; rw [hu]; exact Nat.min_le_right _ _
        have hn := rdRun_next (D := D) (out := out) hlt (by rw [hu]; exact h.u0) (by rw [hu]; exact h1)
        rw [hu] at hn
        obtain ⟨R1, hR1⟩ : ∃ R1, R1 = (R.hold D (a / D.unit)).2.1 := ⟨_, rfl⟩
        obtain ⟨D1, hD1⟩ : ∃ D1, D1 = (R.hold D (a / D.unit)).2.2 := ⟨_, rfl⟩
        rw [← hR1, ← hD1] at hn h2
        rw [← hR1] at h3 h4 h5 h6 h7
        rw [← hD1] at h8
        obtain ⟨K, hK⟩ : ∃ K, K = rK R a z := ⟨_, rfl⟩
        rw [← hK] at hn hk hk2
        have hstep := hd_step h.u0 hk.1 hk2
        have hnx := hd_next (u := D.unit) (a := a) h.u0
        have hcc : 0 ≤ D1.ci ∧ D1.ci + (z - (a + K) : Nat) ≤ 1000000000000 ∧ 0 ≤ D1.cs ∧ D1.cs + (z - (a + K) : Nat) ≤ 1000000000000 := by
          have e1 := h8.ci
          have e2 := h8.cs
          split at e1 <;> split at e2 <;> omega
        obtain ⟨R2, D2, j1, j2, j3, j4, j5, j6, j7, j8⟩ := run_nf m R1 D1 c (a + K) z (out ++ (R1.buf.drop (a % D.unit)).take K) (by omega) (by omega) (by rw [h5]; exact hz) h2 (by rw [h3, h8.un, hstep]) hcc
        rw [h8.un] at j3 j8
        rw [h6] at j8
        have hpiece : (R1.buf.drop (a % D.unit)).take K = (c.drop a).take K := by
          have hb := h2.hb (a / D.unit) h3
          rw [h8.un, h5] at hb
          have hdm := Nat.div_add_mod a D.unit
          have hmc : a / D.unit * D.unit + a % D.unit = a := by rw [Nat.mul_comm]; exact hdm
          have e1 : ((R1.buf.take (R.size - a / D.unit * D.unit)).drop (a % D.unit)).take K = (R1.buf.drop (a % D.unit)).take K := by
            rw [List.drop_take, List.take_take, Nat.min_eq_left (by omega)]
          have e2 : (((c.drop (a / D.unit * D.unit)).take D.unit).drop (a % D.unit)).take K = (c.drop a).take K := by
            rw [List.drop_take, List.take_take, Nat.min_eq_left (by omega), List.drop_drop, hmc]
          rw [← e1, hb, e2]
        refine ⟨R2, D2, ?_, j2, j3, j4.trans h4, j5.trans h5, j6.trans h6, j7.trans h7, ?_⟩
        · rw [hn, j1, hpiece, List.append_assoc, ← List.drop_drop]
          congr 2
          rw [show z - a = K + (z - (a + K)) by omega, List.take_add]
        · have q := h8.trans j8
          rw [hstep] at q
          rw [show hd D.unit z - hd D.unit a = ((a / D.unit : Nat) : Int) - hd D.unit a + (hd D.unit z - ((a / D.unit : Nat) : Int)) by omega]
          exact q
    · have e : z = a := by omega
      subst e
      refine ⟨R, D, by rw [rdRun_done (Nat.le_refl _)]; simp, h, hh, rfl, rfl, rfl, rfl, ?_⟩
      rw [Int.sub_self]
      exact RSt.refl _ _
/-- Read where nothing fails. -/
theorem read_nf {R : Rd} {D : Dv} {c : List Int} (h : RC R D c) (hf : R.fault = 0) (hh : R.held = hd D.unit R.pos) (m : Nat) (hm : m ≤ 65536) (hc : 0 ≤ D.ci ∧ D.ci ≤ 1000000000 ∧ 0 ≤ D.cs ∧ D.cs ≤ 1000000000) :
    ∃ R' D', rRead R D m = (0, (c.drop R.pos).take m, R', D') ∧ RC R' D' c ∧ R'.pos = R.pos + min m (R.size - R.pos) ∧ R'.held = hd D.unit R'.pos ∧ R'.size = R.size ∧ R'.chain = R.chain ∧ R'.fault = 0 ∧ RSt R.chain.isSome (hd D.unit R'.pos - hd D.unit R.pos) D D' := by
  have hp := h.ok.pos
  have hz := h.sz
  obtain ⟨N, hN⟩ : ∃ N, N = min m (R.size - R.pos) := ⟨_, rfl⟩
  obtain ⟨R1, D1, j1, j2, j3, j4, j5, j6, j7, j8⟩ := run_nf N R D c R.pos (R.pos + N) [] (by omega) (by omega) (by omega) h hh (by omega)
  have e1 : rRead R D m = (0, (c.drop R.pos).take m, { R1 with pos := R.pos + N }, D1) := by
    unfold rRead
    rw [if_neg (by rw [hf]; simp), if_neg (by omega), show ((m : Int)).toNat = m by omega, ← hN, j1, if_pos rfl]
    have : ((c.drop R.pos).take (R.pos + N - R.pos)) = (c.drop R.pos).take m := by
      rw [show R.pos + N - R.pos = N by omega]
      by_cases hl : m ≤ R.size - R.pos
      · rw [hN, Nat.min_eq_left hl]
      · rw [List.take_of_length_le (by rw [List.length_drop]; omega), List.take_of_length_le (by rw [List.length_drop]; omega)]
    simp only [List.nil_append, this]
  exact ⟨_, _, e1, ⟨j2.nf, ⟨j2.ok.u, j2.ok.sz, by show R.pos + N ≤ R1.size; rw [j5]; omega, j2.ok.src, j2.ok.hb⟩, j2.u0, j2.ml, j2.sz, j2.src, j2.hb⟩, by rw [← hN], j3, j5, j6, j7.trans hf, j8⟩
end Go.Proofs.Ytkhejipcclpknaa
