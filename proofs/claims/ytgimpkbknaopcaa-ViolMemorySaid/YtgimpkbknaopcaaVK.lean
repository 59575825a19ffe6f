/- The heap's Push and Fix on a Top. No statement is proved here. -/
import Derived.Test.YtgimpkbknaopcaaVJ
set_option linter.unusedVariables false
set_option linter.unusedSimpArgs false
namespace Go.Proofs.Ytgimpkbknaopcaa
open Go.RowKit Go.Shelf Go.Lib
open Go.Sort hiding Below

/-- w' is w at the blocks of K. -/
structure Bel (K : Nat → Prop) (w w' : World) : Prop where
  os : w'.os = w.os
  tape : w'.tape = w.tape
  output : w'.output = w.output
  size : w.heap.size ≤ w'.heap.size
  block : ∀ k, K k → w'.heap[k]? = w.heap[k]?
def Fit (K : Nat → Prop) (n : Nat) : Prop := ∀ k, K k → k < n
theorem Fit.le {K : Nat → Prop} {n m : Nat} (h : Fit K n) (hm : n ≤ m) : Fit K m := fun k hk => Nat.lt_of_lt_of_le (h k hk) hm
theorem Bel.refl (K : Nat → Prop) (w : World) : Bel K w w := ⟨rfl, rfl, rfl, Nat.le_refl _, fun _ _ => rfl⟩
theorem Bel.trans {K : Nat → Prop} {a b c : World} (h : Bel K a b) (k : Bel K b c) : Bel K a c :=
  ⟨k.os.trans h.os, k.tape.trans h.tape, k.output.trans h.output, Nat.le_trans h.size k.size, fun i hi => (k.block i hi).trans (h.block i hi)⟩
theorem Bel.drew {K : Nat → Prop} {a w : World} (h : Bel K a w) : Bel K a w.drew := ⟨h.os, h.tape, h.output, h.size, h.block⟩
theorem Bel.drewN {K : Nat → Prop} {a w : World} (h : Bel K a w) (n : Nat) : Bel K a (w.drewN n) := ⟨h.os, h.tape, h.output, h.size, h.block⟩
theorem Bel.of {K : Nat → Prop} {n : Nat} {w w' : World} (h : Below n w w') (hK : Fit K n) : Bel K w w' := ⟨h.os, h.tape, h.output, h.size, fun k hk => h.block k (hK k hk)⟩
theorem Bel.below {n : Nat} {K : Nat → Prop} {w w' : World} (h : Bel K w w') (hK : ∀ k, k < n → K k) : Below n w w' := ⟨h.os, h.tape, h.output, h.size, fun k hk => h.block k (hK k hk)⟩
theorem Upd.bel {S K : Nat → Prop} {w w' : World} (h : Upd S w w') (hK : Fit K w.heap.size) (hs : ∀ k, S k → ¬ K k) : Bel K w w' :=
  ⟨h.os, h.tape, h.output, h.size, fun k hk => h.block k (hK k hk) fun hk' => hs k hk' hk⟩
theorem fit_lt {n m : Nat} (h : n ≤ m) : Fit (fun k => k < n) m := fun k hk => Nat.lt_of_lt_of_le hk h

/-- A Top at block t, none of it at blocks of B. -/
structure Tp (B : Nat → Prop) (w : World) (t : Nat) (lim tot : Int) (v : Value) (l : List Pt) : Prop where
  ht : w.heap[t]? = some (.cells #[.int .i64 lim, .int .i64 tot, v] 53 (0, 0))
  own : Own w v l
  ne : v.ownBlock ≠ some t
  bt : ¬ B t
  bv : ∀ k, v.ownBlock = some k → ¬ B k
section
variable {B : Nat → Prop} {w w' : World} {t : Nat} {lim tot : Int} {v v' : Value} {l l' : List Pt}
theorem Tp.below (h : Tp B w t lim tot v l) (hb : Below w.heap.size w w') : Tp B w' t lim tot v l :=
  ⟨(hb.block t (blk_lt h.ht)).trans h.ht, own_below h.own hb, h.ne, h.bt, h.bv⟩
theorem Tp.slice (h : Tp B w t lim tot v l) : ∃ a cap, v = .slice a l.length cap ∧ (l = [] ∨ ∃ g, a = some ⟨g, 0, none⟩) := by
  rcases h.own.2 with ⟨rfl, h0⟩ | ⟨g, cap, cur, rfl, _⟩
  · exact ⟨none, 0, by rw [h0], .inl (List.eq_nil_of_length_eq_zero h0)⟩
  · exact ⟨_, _, rfl, .inr ⟨g, rfl⟩⟩
/-- The row alone has changed. -/
theorem Tp.row {g n cap : Nat} (h : Tp B w t lim tot (.slice (some ⟨g, 0, none⟩) n cap) l) {d' : Array Pt} (S : SWK encP 13 w g 0 d' w') (hs : d'.size = l.length) (hB : Fit B w.heap.size) : Tp B w' t lim tot (.slice (some ⟨g, 0, none⟩) n cap) d'.toList ∧ Bel B w w' := by
  have hu := swk_upd S
  have htg : t ≠ g := fun e => h.ne (by rw [e]; rfl)
  refine ⟨⟨(hu.block t (blk_lt h.ht) htg).trans h.ht, own_swk h.own S hs, h.ne, h.bt, h.bv⟩, hu.bel hB (fun k hk => hk ▸ h.bv g rfl)⟩
end

theorem m_assert (x : Value) (w : World) : Sem.run Try.prog (Instr.typeAssert (.iface 55 x) 20 55 true) w = .ok (.tuple #[x, .bool true]) w := by kernel_rfl
theorem tp_set {B : Nat → Prop} {w w3 : World} {t : Nat} {lim tot : Int} {v v' : Value} {l : List Pt} (hgt : w3.heap[t]? = some (.cells #[.int .i64 lim, .int .i64 tot, v] 53 (0, 0))) (ho : Own w3 v' l) (hne : v'.ownBlock ≠ some t)
    (bt : ¬ B t) (bv : ∀ k, v'.ownBlock = some k → ¬ B k) (hb : Bel B w w3) (hB : Fit B w.heap.size) : Tp B (w3.setCell ⟨t, 2, none⟩ v') t lim tot v' l ∧ Bel B w (w3.setCell ⟨t, 2, none⟩ v') := by
  have hu := (Upd.refl (fun k => k = t) w3).setCell (p := ⟨t, 2, none⟩) (fun _ => rfl) v'
  have h1 := heap_setCell_same w3 t 2 _ _ v' hgt
  refine ⟨⟨h1, own_kept ho (fun k hk => hu.block k (own_lt ho k hk) (fun e => hne (by rw [hk, e]))), hne, bt, bv⟩, hb.trans (hu.bel (Fit.le hB hb.size) (fun k hk => hk ▸ bt))⟩
theorem own_slice {w : World} {v : Value} {l : List Pt} (h : Own w v l) (hn : l ≠ []) : ∃ g cap, v = .slice (some ⟨g, 0, none⟩) l.length cap := by
  rcases h.2 with ⟨rfl, h0⟩ | ⟨g0, cap0, cur, rfl, _⟩
  · exact absurd (List.eq_nil_of_length_eq_zero h0) hn
  · exact ⟨g0, cap0, rfl⟩
def RowPost (B : Nat → Prop) (w : World) (t : Nat) (lim tot : Int) (g cap n : Nat) (d' : Array Pt) (e : Ending) (w' : World) : Prop := e = .returned (.tuple #[]) ∧ Tp B w' t lim tot (.slice (some ⟨g, 0, none⟩) n cap) d'.toList ∧ Bel B w w'
theorem sift_sz (n : Nat) : ∀ (m i : Nat) (d : Array Pt), n - i ≤ m → (siftDown (ltOf cfP) n 0 i d).size = d.size := by
  intro m
  induction m with
  | zero => intro i d h; rw [sd_end (lt := ltOf cfP) (F := 0) d (by omega)]
  | succ m ih =>
    intro i d h
    rw [siftDown]
    by_cases h0 : n ≤ 2 * i + 1
    · rw [dif_pos h0]
    · rw [dif_neg h0]
      split <;> (try split) <;> (try split) <;> first | rfl | (rw [ih _ _ (by omega), size_swp])
theorem sift_size {n : Nat} {l : List Pt} (h : n = l.length) : (siftDown (ltOf cfP) n 0 0 l.toArray).size = l.length := by
  rw [sift_sz n n 0 _ (by omega)]
  simp
def PushmPost (B : Nat → Prop) (w : World) (t : Nat) (lim tot : Int) (l : List Pt) (e : Ending) (w' : World) : Prop := e = .returned (.tuple #[]) ∧ ∃ g cap, Tp B w' t lim tot (.slice (some ⟨g, 0, none⟩) l.length cap) l ∧ Bel B w w'
set_option maxHeartbeats 2000000 in
set_option maxRecDepth 1000000 in
theorem pushm_any (B : Nat → Prop) (t : Nat) (lim tot : Int) (v : Value) (l : List Pt) (p : Pt) (w : World) (h : Tp B w t lim tot v l) (hl : l.length ≤ 20000) (hB : Fit B w.heap.size) :
    Calls Try.prog 78 #[.pointer (some ⟨t, 2, none⟩), .iface 55 p.agg] w (PushmPost B w t lim tot (l ++ [p])) := by
  have hal := (Below.refl _ w).alloc (Nat.le_refl _) (.cells #[.int .i64 p.v.kind, .int .i64 p.v.time, .int .i64 p.v.txn, .int .i64 p.v.op, .int .i64 p.v.wit, .string p.v.key, .bool p.v.want, .string p.v.exp, .bool p.v.got, .string p.v.obs, .int .i64 p.v.frm, .int .i64 p.v.to, .int .i64 p.num] 55)
  have hal2 := (Below.refl _ (w.alloc (.cells #[.int .i64 p.v.kind, .int .i64 p.v.time, .int .i64 p.v.txn, .int .i64 p.v.op, .int .i64 p.v.wit, .string p.v.key, .bool p.v.want, .string p.v.exp, .bool p.v.got, .string p.v.obs, .int .i64 p.v.frm, .int .i64 p.v.to, .int .i64 p.num] 55))).alloc (Nat.le_refl _) (.cells #[.int .i64 p.v.kind, .int .i64 p.v.time, .int .i64 p.v.txn, .int .i64 p.v.op, .int .i64 p.v.wit, .string p.v.key, .bool p.v.want, .string p.v.exp, .bool p.v.got, .string p.v.obs, .int .i64 p.v.frm, .int .i64 p.v.to, .int .i64 p.num] 55)
  have T1 := h.below hal
  have T2 := (T1.below hal2).below (Below.refl _ _).drew
  have hb2 := Bel.of ((hal.trans (hal2.mono hal.size)).drew) hB
  obtain ⟨v', w3, hrun, hown, hgr, hdis⟩ := app_puts (((w.alloc (.cells #[.int .i64 p.v.kind, .int .i64 p.v.time, .int .i64 p.v.txn, .int .i64 p.v.op, .int .i64 p.v.wit, .string p.v.key, .bool p.v.want, .string p.v.exp, .bool p.v.got, .string p.v.obs, .int .i64 p.v.frm, .int .i64 p.v.to, .int .i64 p.num] 55)).alloc (.cells #[.int .i64 p.v.kind, .int .i64 p.v.time, .int .i64 p.v.txn, .int .i64 p.v.op, .int .i64 p.v.wit, .string p.v.key, .bool p.v.want, .string p.v.exp, .bool p.v.got, .string p.v.obs, .int .i64 p.v.frm, .int .i64 p.v.to, .int .i64 p.num] 55)).drew) 51 v l [p] T2.own ⟨w.heap.size + 1, 0, none⟩ 1 (by
    intro j u hj
    rw [Addr.add_lit, Nat.zero_add]
    have hnew' : (((w.alloc (.cells #[.int .i64 p.v.kind, .int .i64 p.v.time, .int .i64 p.v.txn, .int .i64 p.v.op, .int .i64 p.v.wit, .string p.v.key, .bool p.v.want, .string p.v.exp, .bool p.v.got, .string p.v.obs, .int .i64 p.v.frm, .int .i64 p.v.to, .int .i64 p.num] 55)).alloc (.cells #[.int .i64 p.v.kind, .int .i64 p.v.time, .int .i64 p.v.txn, .int .i64 p.v.op, .int .i64 p.v.wit, .string p.v.key, .bool p.v.want, .string p.v.exp, .bool p.v.got, .string p.v.obs, .int .i64 p.v.frm, .int .i64 p.v.to, .int .i64 p.num] 55)).drew).heap[w.heap.size + 1]? = some (.cells #[.int .i64 p.v.kind, .int .i64 p.v.time, .int .i64 p.v.txn, .int .i64 p.v.op, .int .i64 p.v.wit, .string p.v.key, .bool p.v.want, .string p.v.exp, .bool p.v.got, .string p.v.obs, .int .i64 p.v.frm, .int .i64 p.v.to, .int .i64 p.num] 55 (0, 0)) := heap_alloc2_new w (.cells #[.int .i64 p.v.kind, .int .i64 p.v.time, .int .i64 p.v.txn, .int .i64 p.v.op, .int .i64 p.v.wit, .string p.v.key, .bool p.v.want, .string p.v.exp, .bool p.v.got, .string p.v.obs, .int .i64 p.v.frm, .int .i64 p.v.to, .int .i64 p.num] 55) (.cells #[.int .i64 p.v.kind, .int .i64 p.v.time, .int .i64 p.v.txn, .int .i64 p.v.op, .int .i64 p.v.wit, .string p.v.key, .bool p.v.want, .string p.v.exp, .bool p.v.got, .string p.v.obs, .int .i64 p.v.frm, .int .i64 p.v.to, .int .i64 p.num] 55)
    refine (blk_cell hnew' j).trans ?_
    simpa [cellsP, encP] using hj) (by simp; omega)
  have hgt : w3.heap[t]? = some (.cells #[.int .i64 lim, .int .i64 tot, v] 53 (0, 0)) := ((Upd.of_grown hgr).block t (blk_lt T2.ht) h.ne).trans T2.ht
  have c3 : w3.cell? ⟨t, 2, none⟩ = some v := (blk_cell hgt 2).trans rfl
  have f3 := blk_free hgt 2
  have c0 : w.cell? ⟨t, 2, none⟩ = some v := (blk_cell h.ht 2).trans rfl
  have ht0 := blk_lt h.ht
  have mA := m_assert p.agg w
  go_enter Try.func78, Try.ntmps78
  have cA : (w.alloc (.cells #[.int .i64 p.v.kind, .int .i64 p.v.time, .int .i64 p.v.txn, .int .i64 p.v.op, .int .i64 p.v.wit, .string p.v.key, .bool p.v.want, .string p.v.exp, .bool p.v.got, .string p.v.obs, .int .i64 p.v.frm, .int .i64 p.v.to, .int .i64 p.num] 55)).cell? ⟨t, 2, none⟩ = some v := (blk_cell T1.ht 2).trans rfl
  have cB : ((w.alloc (.cells #[.int .i64 p.v.kind, .int .i64 p.v.time, .int .i64 p.v.txn, .int .i64 p.v.op, .int .i64 p.v.wit, .string p.v.key, .bool p.v.want, .string p.v.exp, .bool p.v.got, .string p.v.obs, .int .i64 p.v.frm, .int .i64 p.v.to, .int .i64 p.num] 55)).alloc (.cells #[.int .i64 p.v.kind, .int .i64 p.v.time, .int .i64 p.v.txn, .int .i64 p.v.op, .int .i64 p.v.wit, .string p.v.key, .bool p.v.want, .string p.v.exp, .bool p.v.got, .string p.v.obs, .int .i64 p.v.frm, .int .i64 p.v.to, .int .i64 p.num] 55)).cell? ⟨t, 2, none⟩ = some v := (blk_cell T2.ht 2).trans rfl
  obtain ⟨g', cap', rfl⟩ := own_slice hown (by simp)
  have hne2 : (Value.slice (some ⟨g', 0, none⟩) (l ++ [p]).length cap').ownBlock ≠ some t := by
    intro e
    rcases hdis with h1 | ⟨h1, _⟩
    · exact h.ne (h1 ▸ e)
    · rw [h1] at e
      have := blk_lt T2.ht
      cases e
      omega
  have hbv2 : ¬ B g' := by
    rcases hdis with h1 | ⟨h1, _⟩
    · exact h.bv g' (h1 ▸ rfl)
    · have e : some g' = _ := h1
      cases e
      exact fun hk => by have h1 := hB _ hk; have h2 := hb2.size; omega
  have FB := hid (hb2.trans ((Upd.of_grown hgr).bel (Fit.le hB hb2.size) (fun k hk => T2.bv k hk)))
  have FO := hid hown
  have FN := hid hne2
  have FT := hid hgt
  have FZ := hid (Fit.le hB hb2.size)
  clear hal hal2 hb2 hown hgr hdis hgt T1 T2 hne2
  have hlen : (l ++ [p]).length = (l ++ [p]).length := rfl
  generalize l ++ [p] = l2 at *
  generalize hn2 : l2.length = n2 at *
  have HN := hid hn2
  clear hn2
  go_upto_region 2 with fail
  go_region_law (refine step_append_run rfl _ _ 51 51 rfl _ _ rfl rfl hrun ?_)
  all_goals
    have hN := HN.out
    subst hN
    obtain ⟨q1, q2⟩ := tp_set FT.out FO.out FN.out h.bt (fun k hk => by cases hk; exact hbv2) FB.out hB
    exact bodyPost_end (v := .tuple #[]) (by simp [results, Try.results78, go_sem]) rfl ⟨rfl, g', cap', q1, q2⟩

theorem fix_any (B : Nat → Prop) (t : Nat) (lim tot : Int) (g cap : Nat) (l : List Pt) (w : World) (h : Tp B w t lim tot (.slice (some ⟨g, 0, none⟩) l.length cap) l) (hl : l.length ≤ 20000) (hB : Fit B w.heap.size) :
    Calls Try.prog 26 #[(.iface 57 (.pointer (some ⟨t, 2, none⟩))), .int .i64 0] w (RowPost B w t lim tot g cap l.length (siftDown (ltOf cfP) l.length 0 0 l.toArray)) := by
  obtain ⟨hH, hg, _⟩ := own_holds h.own
  have ht := blk_lt h.ht
  have htg : t ≠ g := fun e => h.ne (by rw [e]; rfl)
  have c2 : w.cell? ⟨t, 2, none⟩ = some (.slice (some ⟨g, 0, none⟩) l.length cap) := (blk_cell h.ht 2).trans rfl
  have mN := m_len (t := t) c2
  have hd := down_any t g cap 0 l.length l.toArray w (by simp) (by omega) ht hg htg (by omega) c2 hH
  have H := hid h
  have HH := hid hH
  obtain ⟨n, hn⟩ : ∃ n, n = l.length := ⟨_, rfl⟩
  rw [← hn] at c2 mN hd ⊢
  have hn2 : n ≤ 20000 := by omega
  have HN := hid hn
  have HD := hid hd
  clear h hH hn hd hl
  go_enter Try.func26, Try.ntmps26
  go_wp2_with fail
  refine (len_any (.slice none 0 0) n _ _ _ (by omega)).mono ?_
  rintro e w1 ⟨rfl, rfl⟩
  go_wp2_with fail
  refine HD.out.mono ?_
  rintro e w2 ⟨b, rfl, hS⟩
  have hsd : (siftDown (ltOf cfP) n 0 0 l.toArray).size = l.length := by
    have := (sift_size (n := n) (l := l) HN.out)
    exact this
  rw [HN.out] at hS
  obtain ⟨q1, q2⟩ := Tp.row H.out hS (by rw [← HN.out]; exact hsd.trans HN.out.symm) hB
  have Q1 := hid q1
  have Q2 := hid q2
  have HS := hid hS
  clear q1 q2 hS c2 mN HD
  cases b with
  | true =>
    go_wp2_with fail
    exact bodyPost_end (v := .tuple #[]) (by simp [results, Try.results26, go_sem]) rfl ⟨rfl, by rw [HN.out]; exact Q1.out, Q2.out⟩
  | false =>
    obtain ⟨hH2, hg2, hl2⟩ := own_holds Q1.out.own
    have hu2 := up_any t g cap 0 n (siftDown (ltOf cfP) l.length 0 0 l.toArray) w2 (by rw [← HN.out]; exact hsd.trans HN.out.symm) (.inl rfl) (blk_lt Q1.out.ht) hg2 htg (by omega) (by rw [blk_cell Q1.out.ht, HN.out]; rfl) hH2
    have HU := hid hu2
    clear hH2 hl2 hu2
    go_wp2_with fail
    refine HU.out.mono ?_
    rintro e w3 ⟨rfl, hT⟩
    rw [upA_zero] at hT
    obtain ⟨q1, q2⟩ := Tp.row Q1.out hT (by simp) (Fit.le hB Q2.out.size)
    have R1 := hid q1
    have R2 := hid (Q2.out.trans q2)
    clear q1 q2 hT
    go_wp2_with fail
    exact bodyPost_end (v := .tuple #[]) (by simp [results, Try.results26, go_sem]) rfl ⟨rfl, by rw [HN.out]; exact R1.out, R2.out⟩

theorem upA_size : ∀ (j : Nat) (d : Array Pt), (upA d j).size = d.size := by
  intro j
  induction j using Nat.strongRecOn with
  | _ j ih =>
    intro d
    by_cases hj : j = 0
    · subst hj; rw [upA_zero]
    · cases hv : ltOf cfP d[(j - 1) / 2]! d[j]! with
      | true => rw [upA_go d j hj hv, ih _ (by omega), size_swp]
      | false => rw [upA_stop d j hv]
def PushPost (B : Nat → Prop) (w : World) (t : Nat) (lim tot : Int) (l : List Pt) (e : Ending) (w' : World) : Prop := e = .returned (.tuple #[]) ∧ ∃ g cap, Tp B w' t lim tot (.slice (some ⟨g, 0, none⟩) l.length cap) l ∧ Bel B w w'
set_option maxHeartbeats 2000000 in
set_option maxRecDepth 1000000 in
theorem push_any (B : Nat → Prop) (t : Nat) (lim tot : Int) (v : Value) (l : List Pt) (p : Pt) (w : World) (h : Tp B w t lim tot v l) (hl : l.length ≤ 20000) (hB : Fit B w.heap.size) :
    Calls Try.prog 24 #[(.iface 57 (.pointer (some ⟨t, 2, none⟩))), .iface 55 p.agg] w (PushPost B w t lim tot (upA (l ++ [p]).toArray l.length).toList) := by
  have hm := m_push t w
  have hp := pushm_any B t lim tot v l p w h hl hB
  obtain ⟨k, hk⟩ : ∃ k, k = l.length := ⟨_, rfl⟩
  have hl2 : (l ++ [p]).length = k + 1 := by rw [List.length_append, hk]; rfl
  rw [← hk]
  have hk2 : k ≤ 20000 := by omega
  have HP := hid hp
  have HL := hid hl2
  clear hp hl hk hl2 h
  generalize l ++ [p] = l2 at *
  go_enter Try.func24, Try.ntmps24
  go_wp2_with fail
  refine HP.out.mono ?_
  rintro e w1 ⟨rfl, g, cap, hT, hb1⟩
  rw [HL.out] at hT
  have T1 := hid hT
  have c2 : w1.cell? ⟨t, 2, none⟩ = some (.slice (some ⟨g, 0, none⟩) (k + 1) cap) := (blk_cell hT.ht 2).trans rfl
  have mN := m_len (t := t) c2
  obtain ⟨hH, hg, hn⟩ := own_holds hT.own
  have htg : t ≠ g := fun e => hT.ne (by rw [e]; rfl)
  have hB1 := hid (Fit.le hB hb1.size)
  have hu := up_any t g cap k (k + 1) l2.toArray w1 (by simp [HL.out]) (.inr (by omega)) (blk_lt hT.ht) hg htg (by omega) c2 hH
  have HU := hid hu
  have Hb1 := hid hb1
  have Hn := hid hn
  clear hu hT hH hb1 hg hn hm HP
  go_wp2_with fail
  refine (len_any (.slice none 0 0) (k + 1) _ _ _ (by omega)).mono ?_
  rintro e w2 ⟨rfl, rfl⟩
  clear mN c2
  go_wp2_with fail
  refine HU.out.mono ?_
  rintro e w3 ⟨rfl, hS⟩
  obtain ⟨q1, q2⟩ := Tp.row T1.out hS (by rw [upA_size]; simp) hB1.out
  have hlen : (upA l2.toArray k).toList.length = k + 1 := by rw [Array.length_toList, upA_size]; simp [HL.out]
  have Q1 := hid q1
  have Q2 := hid (Hb1.out.trans q2)
  have HQ := hid hlen
  clear q1 q2 hS hlen
  go_wp2_with fail
  exact bodyPost_end (v := .tuple #[]) (by simp [results, Try.results24, go_sem]) rfl ⟨rfl, g, cap, by rw [HQ.out]; exact Q1.out, Q2.out⟩
end Go.Proofs.Ytgimpkbknaopcaa
