/- Three readers of one device; a list of three rows. No statement is proved here. -/
import Derived.Test.YtkhejipcclpknaaUO
import Derived.Test.YtkhejipcclpknaaUH
set_option linter.unusedVariables false
set_option linter.unusedSimpArgs false
namespace Go.Proofs.Ytkhejipcclpknaa
open Go.RowKit

theorem hd_mono {u a b : Nat} (h : a ≤ b) : hd u a ≤ hd u b := by
  unfold hd
  by_cases ha : a = 0
  · rw [if_pos ha]
    split
    · omega
    · obtain ⟨q, hq⟩ : ∃ q, q = (b - 1) / u := ⟨_, rfl⟩
      rw [← hq]
      omega
  · rw [if_neg ha, if_neg (by omega)]
    have := Nat.div_le_div_right (c := u) (show a - 1 ≤ b - 1 by omega)
    omega
/-- A reader and where it lies. -/
structure Rr where
  p : Nat
  oc : Option Nat
  o : Option Nat
  R : Rd
def Rr.S (r : Rr) (k : Nat) : Prop := rS r.p r.oc r.o k
def A3 (d : Dl) (x y z : Rr) (k : Nat) : Prop := x.S k ∨ y.S k ∨ z.S k ∨ d.S k
structure T3 (w : World) (d : Dl) (D : Dv) (B N : Nat) (c : List Int) (x y z : Rr) : Prop where
  hx : ROn w x.p d x.oc x.o x.R D c
  hy : ROn w y.p d y.oc y.o y.R D c
  hz : ROn w z.p d z.oc z.o z.R D c
  xy : ∀ k, x.S k → ¬ y.S k
  yz : ∀ k, y.S k → ¬ z.S k
  zx : ∀ k, z.S k → ¬ x.S k
  nw : ∀ k, A3 d x y z k → B ≤ k
  ci : 0 ≤ D.ci ∧ D.ci ≤ N
  cs : 0 ≤ D.cs ∧ D.cs ≤ N
theorem T3.rot {w : World} {d : Dl} {D : Dv} {B N : Nat} {c : List Int} {x y z : Rr} (h : T3 w d D B N c x y z) : T3 w d D B N c y z x :=
  ⟨h.hy, h.hz, h.hx, h.yz, h.zx, h.xy, fun k hk => h.nw k (by
    rcases hk with e | e | e | e
    · exact .inr (.inl e)
    · exact .inr (.inr (.inl e))
    · exact .inl e
    · exact .inr (.inr (.inr e))), h.ci, h.cs⟩
theorem T3.lt {w : World} {d : Dl} {D : Dv} {B N : Nat} {c : List Int} {x y z : Rr} (h : T3 w d D B N c x y z) : ∀ k, A3 d x y z k → k < w.heap.size := fun k hk => by
  rcases hk with e | e | e | e
  · exact h.hx.mem.rd.lt k e
  · exact h.hy.mem.rd.lt k e
  · exact h.hz.mem.rd.lt k e
  · exact h.hx.mem.dv.lt k e
theorem ROn.upd {S : Nat → Prop} {w w' : World} {p : Nat} {d : Dl} {oc o : Option Nat} {R : Rd} {D : Dv} {c : List Int} (h : ROn w p d oc o R D c) (u : Upd S w w') (h1 : ∀ k, rS p oc o k → ¬ S k) (h2 : ∀ k, d.S k → ¬ S k) : ROn w' p d oc o R D c :=
  ⟨⟨h.mem.rd.upd u h1, h.mem.dv.upd u h2, h.mem.ap⟩, h.good, h.fa, h.hh⟩
theorem T3.upd {S : Nat → Prop} {w w' : World} {d : Dl} {D : Dv} {B N : Nat} {c : List Int} {x y z : Rr} (h : T3 w d D B N c x y z) (u : Upd S w w') (hs : ∀ k, A3 d x y z k → ¬ S k) : T3 w' d D B N c x y z :=
  ⟨h.hx.upd u (fun k hk => hs k (.inl hk)) (fun k hk => hs k (.inr (.inr (.inr hk)))), h.hy.upd u (fun k hk => hs k (.inr (.inl hk))) (fun k hk => hs k (.inr (.inr (.inr hk)))), h.hz.upd u (fun k hk => hs k (.inr (.inr (.inl hk)))) (fun k hk => hs k (.inr (.inr (.inr hk)))), h.xy, h.yz, h.zx, h.nw, h.ci, h.cs⟩
theorem T3.below {w w' : World} {d : Dl} {D : Dv} {B N : Nat} {c : List Int} {x y z : Rr} (h : T3 w d D B N c x y z) (hb : Below w.heap.size w w') : T3 w' d D B N c x y z :=
  h.upd (S := fun _ => False) (Upd.of_new hb) (fun _ _ hh => hh)
theorem T3.mk3 {w1 w2 w3 : World} {d : Dl} {D : Dv} {B N : Nat} {c : List Int} {x y z : Rr} (hx : ROn w1 x.p d x.oc x.o x.R D c) (b1 : Below w1.heap.size w1 w2) (hy : ROn w2 y.p d y.oc y.o y.R D c) (ny : ∀ k, y.S k → w1.heap.size ≤ k) (b2 : Below w2.heap.size w2 w3) (hz : ROn w3 z.p d z.oc z.o z.R D c) (nz : ∀ k, z.S k → w2.heap.size ≤ k)
    (nx : ∀ k, x.S k → B ≤ k) (nd : ∀ k, d.S k → B ≤ k) (hB : B ≤ w1.heap.size) (ci : 0 ≤ D.ci ∧ D.ci ≤ N) (cs : 0 ≤ D.cs ∧ D.cs ≤ N) : T3 w3 d D B N c x y z := by
  have hs1 := b1.size
  have hs2 := b2.size
  refine ⟨(hx.below b1).below b2, hy.below b2, hz, fun k h1 h2 => ?_, fun k h1 h2 => ?_, fun k h1 h2 => ?_, fun k hk => ?_, ci, cs⟩
  · have := hx.mem.rd.lt k h1
    have := ny k h2
    omega
  · have := hy.mem.rd.lt k h1
    have := nz k h2
    omega
  · have := hx.mem.rd.lt k h2
    have := nz k h1
    omega
  · rcases hk with e | e | e | e
    · exact nx k e
    · exact Nat.le_trans hB (ny k e)
    · exact Nat.le_trans (Nat.le_trans hB hs1) (nz k e)
    · exact nd k e
def T3Read (w : World) (d : Dl) (D : Dv) (B N : Nat) (c : List Int) (x y z : Rr) (m : Nat) (e : Ending) (w' : World) : Prop :=
  ∃ v x' D1, e = .returned (.tuple #[v, .int .i64 0]) ∧ x'.p = x.p ∧ x'.R.pos = x.R.pos + min m (c.length - x.R.pos) ∧ w'.ownsRow 0 5 1 v ((c.drop x.R.pos).take m).length (cellsB ((c.drop x.R.pos).take m)) ∧ (∀ k, v.ownBlock = some k → w.heap.size ≤ k ∧ k < w'.heap.size ∧ ¬ A3 d y z x' k) ∧ T3 w' d D1 B (N + c.length + 1) c y z x' ∧ Upd (A3 d x y z) w w' ∧ ∀ k, k < w.heap.size → ¬ A3 d x y z k → w'.heap[k]? = w.heap[k]? ∧ k < w'.heap.size ∧ ¬ A3 d y z x' k
theorem T3.read {w : World} {d : Dl} {D : Dv} {B N : Nat} {c : List Int} {x y z : Rr} (h : T3 w d D B N c x y z) (hB : B ≤ w.heap.size) (hN : N ≤ 500000000) (m : Nat) (hm : m ≤ 65536) :
    Calls Try.prog 19 #[.pointer (some ⟨x.p, 0, none⟩), .int .i64 (m : Int)] w (T3Read w d D B N c x y z m) := by
  have hci := h.ci
  have hcs := h.cs
  have hsz := h.hx.good.sz
  have hps := h.hx.good.ok.pos
  refine (read_on h.hx ⟨hci.1, by omega, hcs.1, by omega⟩ m hm).mono ?_
  rintro e w' ⟨v, o1, R1, D1, rfl, hv, hvo, hr, st, hp, hs1, hch, hst⟩
  have hsz' := st.up.size
  have hdv := hr.mem.dv
  have hrs : ∀ k, rS x.p x.oc o1 k → x.S k ∨ w.heap.size ≤ k := fun b hb => by
    rcases hb with e | e | e
    · exact .inl (.inl e)
    · exact .inl (.inr (.inl e))
    · rcases st.h1 b e with e | e
      · exact .inl (.inr (.inr e))
      · exact .inr e
  have hvk : ∀ k, v.ownBlock = some k → w.heap.size ≤ k ∧ k < w'.heap.size := fun k hk => by
    rcases hv.2 with ⟨rfl, _⟩ | ⟨g, cap, cur, rfl, hge, hg, _⟩
    · cases hk
    · cases hk
      exact ⟨hge, blk_lt hg⟩
  have hv0 : w'.ownsRow 0 5 1 v ((c.drop x.R.pos).take m).length (cellsB ((c.drop x.R.pos).take m)) := ⟨hv.1, by
    rcases hv.2 with e | ⟨g, cap, cur, e, hge, r⟩
    · exact .inl e
    · exact .inr ⟨g, cap, cur, e, Nat.zero_le _, r⟩⟩
  have hmo : hd D.unit x.R.pos ≤ hd D.unit R1.pos := hd_mono (by rw [hp]; omega)
  have hl1 := hd_le (u := D.unit) (a := R1.pos)
  have hl0 := hd_le (u := D.unit) (a := x.R.pos)
  have e1 := hst.ci
  have e2 := hst.cs
  have hb1 : R1.pos ≤ c.length := by rw [hp, hsz]; omega
  have hle : 0 ≤ hd D.unit R1.pos - hd D.unit x.R.pos ∧ hd D.unit R1.pos - hd D.unit x.R.pos ≤ (c.length : Int) + 1 := by omega
  have hcut : ∀ k, k < w.heap.size → A3 d y z ⟨x.p, x.oc, o1, R1⟩ k → A3 d x y z k := fun k hk hh => by
    rcases hh with e | e | e | e
    · exact .inr (.inl e)
    · exact .inr (.inr (.inl e))
    · rcases hrs k e with e | e
      · exact .inl e
      · omega
    · exact .inr (.inr (.inr e))
  have hup : Upd (A3 d x y z) w w' := st.up.mono fun k _ hk => by
    rcases hk with e | e
    · exact .inl e
    · exact .inr (.inr (.inr e))
  refine ⟨v, ⟨x.p, x.oc, o1, R1⟩, D1, rfl, rfl, by show R1.pos = _; rw [hp, hsz], hv0, fun k hk => ⟨(hvk k hk).1, (hvk k hk).2, fun hh => ?_⟩, T3.rot ⟨hr, ?_, ?_, fun k h1 h2 => ?_, h.yz, fun k h1 h2 => ?_, fun k hk => ?_, ?_, ?_⟩, hup, fun k hk hn => ⟨hup.block k hk hn, Nat.lt_of_lt_of_le hk hsz', fun hh => hn (hcut k hk hh)⟩⟩
  · have hge := (hvk k hk).1
    rcases hh with e | e | e | e
    · have := h.hy.mem.rd.lt k e
      omega
    · have := h.hz.mem.rd.lt k e
      omega
    · rcases e with e | e | e
      · have := h.hx.mem.rd.lt k (.inl e)
        omega
      · have := h.hx.mem.rd.lt k (.inr (.inl e))
        omega
      · exact hvo k hk e
    · have := h.hx.mem.dv.lt k e
      omega
  · exact h.hy.other st (fun k hk hh => h.xy k hh hk) hst hdv
  · exact h.hz.other st (fun k hk hh => h.zx k hk hh) hst hdv
  · rcases hrs k h1 with e | e
    · exact h.xy k e h2
    · have := h.hy.mem.rd.lt k h2
      omega
  · rcases hrs k h2 with e | e
    · exact h.zx k h1 e
    · have := h.hz.mem.rd.lt k h1
      omega
  · rcases hk with e | e | e | e
    · rcases hrs k e with e | e
      · exact h.nw k (.inl e)
      · exact Nat.le_trans hB e
    · exact h.nw k (.inr (.inl e))
    · exact h.nw k (.inr (.inr (.inl e)))
    · exact h.nw k (.inr (.inr (.inr e)))
  · cases hcc : x.R.chain.isSome <;> rw [hcc] at e1 <;> simp at e1 <;> omega
  · cases hcc : x.R.chain.isSome <;> rw [hcc] at e2 <;> simp at e2 <;> omega
/-- A row that isn't empty has a block. -/
theorem row_some {w : World} {B M : Nat} {e : TypeId} {v : Value} {xs : List Value} (h : w.ownsRow B e 1 v M xs) (hM : 1 ≤ M) : ∃ g c, v = .slice (some ⟨g, 0, none⟩) M c := by
  rcases h.2 with ⟨hh, h0⟩ | ⟨g, cap, cur, hh, _⟩
  · omega
  · exact ⟨g, cap, hh⟩
/-- A cell of an own row is written. -/
theorem row_put {w : World} {B g n c : Nat} {e : TypeId} {xs : List Value} (h : w.ownsRow B e 1 (.slice (some ⟨g, 0, none⟩) n c) n xs) {i : Nat} (hi : i < n) (x : Value) :
    (w.setCell ⟨g, i, none⟩ x).ownsRow B e 1 (.slice (some ⟨g, 0, none⟩) n c) n (xs.set i x) := by
  have hl := h.1
  rcases h.2 with ⟨hh, _⟩ | ⟨g', c', cur, hh, hb, hg, hle, hm, hs, ht⟩
  · cases hh
  cases hh
  refine ⟨by rw [List.length_set]; exact hl, .inr ⟨g, c, cur.setIfInBounds i x, rfl, hb, heap_setCell_same w g i _ _ _ hg, hle, hm, by rw [Array.size_setIfInBounds]; exact hs, ?_⟩⟩
  rw [Array.toList_setIfInBounds, Nat.mul_one]
  rw [Nat.mul_one] at ht
  rw [List.take_set, ht]
/-- A list of three rows of bytes. -/
structure Rows3 (w : World) (lb M : Nat) (g cc : Nat → Nat) (ct : Nat → List Int) : Prop where
  lst : w.heap[lb]? = some (.cells #[.slice (some ⟨g 0, 0, none⟩) M (cc 0), .slice (some ⟨g 1, 0, none⟩) M (cc 1), .slice (some ⟨g 2, 0, none⟩) M (cc 2)] 22 (0, 0))
  row : ∀ j, j < 3 → w.ownsRow 0 5 1 (.slice (some ⟨g j, 0, none⟩) M (cc j)) M (cellsB (ct j)) ∧ M = (ct j).length
  ne : ∀ j k, j < 3 → k < 3 → j ≠ k → g j ≠ g k
  nl : ∀ j, j < 3 → g j ≠ lb
theorem Rows3.at {w : World} {lb M : Nat} {g cc : Nat → Nat} (h : w.heap[lb]? = some (.cells #[.slice (some ⟨g 0, 0, none⟩) M (cc 0), .slice (some ⟨g 1, 0, none⟩) M (cc 1), .slice (some ⟨g 2, 0, none⟩) M (cc 2)] 22 (0, 0))) {j : Nat} (hj : j < 3) : w.cell? ⟨lb, j, none⟩ = some (.slice (some ⟨g j, 0, none⟩) M (cc j)) := by
  refine (blk_cell h j).trans ?_
  match j, hj with
  | 0, _ => rfl
  | 1, _ => rfl
  | 2, _ => rfl
theorem Rows3.set {w : World} {lb M : Nat} {g cc : Nat → Nat} {ct : Nat → List Int} (h : Rows3 w lb M g cc ct) {j i : Nat} (hj : j < 3) (hi : i < M) (x : Int) : Rows3 (w.setCell ⟨g j, i, none⟩ (.int .u8 x)) lb M g cc (fun q => if q = j then (ct j).set i x else ct q) := by
  have u : Upd (fun k => k = g j) w (w.setCell ⟨g j, i, none⟩ (.int .u8 x)) := (Upd.refl (fun k => k = g j) w).setCell (p := ⟨g j, i, none⟩) (fun _ => rfl) _
  refine ⟨(u.block lb (blk_lt h.lst) (fun e => h.nl j hj e.symm)).trans h.lst, fun q hq => ?_, h.ne, h.nl⟩
  by_cases hqj : q = j
  · subst hqj
    rw [if_pos rfl]
    exact ⟨row_set (h.row q hq).1 (h.row q hq).2 hi x, by rw [List.length_set]; exact (h.row q hq).2⟩
  · rw [if_neg hqj]
    refine ⟨own_same (h.row q hq).1 fun k hk => ?_, (h.row q hq).2⟩
    cases hk
    exact u.block _ (by
      rcases (h.row q hq).1.2 with ⟨hh, _⟩ | ⟨b, cap, cur, hh, _, hg, _⟩
      · cases hh
      · cases hh
        exact blk_lt hg) (h.ne q j hq hj hqj)
def mk3 (m : List Int) (i k : Nat) (q : Nat) : List Int := if q < i then List.replicate m.length ((q : Int) + 1) else if q = i then List.replicate k ((i : Int) + 1) ++ m.drop k else m
theorem mk3_zero (m : List Int) : mk3 m 0 0 = fun _ => m := by
  funext q
  unfold mk3
  rw [if_neg (by omega)]
  split <;> simp
theorem mk3_next (m : List Int) (i : Nat) : mk3 m i m.length = mk3 m (i + 1) 0 := by
  funext q
  unfold mk3
  by_cases h1 : q < i
  · rw [if_pos h1, if_pos (by omega)]
  · rw [if_neg h1]
    by_cases h2 : q = i
    · rw [if_pos h2, if_pos (by omega), h2]
      simp
    · rw [if_neg h2, if_neg (by omega)]
      split <;> simp
theorem mk3_set {m : List Int} {i k : Nat} (hk : k < m.length) : (fun q => if q = i then (mk3 m i k i).set k ((i : Int) + 1) else mk3 m i k q) = mk3 m i (k + 1) := by
  funext q
  by_cases h2 : q = i
  · subst h2
    unfold mk3
    rw [if_pos rfl, if_neg (by omega), if_pos rfl, if_neg (by omega), if_pos rfl]
    exact set_all hk
  · unfold mk3
    rw [if_neg h2]
    by_cases h1 : q < i
    · rw [if_pos h1, if_pos h1]
    · rw [if_neg h1, if_neg h1, if_neg h2, if_neg h2]
theorem Rows3.mark {w : World} {lb M : Nat} {g cc : Nat → Nat} {m : List Int} {i k : Nat} (h : Rows3 w lb M g cc (mk3 m i k)) (hM : M = m.length) (hi : i < 3) (hk : k < M) : Rows3 (w.setCell ⟨g i, k, none⟩ (.int .u8 ((i : Int) + 1))) lb M g cc (mk3 m i (k + 1)) := by
  have := h.set hi hk ((i : Int) + 1)
  rw [mk3_set (by omega)] at this
  exact this
theorem own_bytes {w : World} {B : Nat} {a : Option Addr} {n c : Nat} {l : List Int} (h : w.ownsRow B 5 1 (.slice a n c) n (cellsB l)) (hn : n = l.length) : BytesIn w a l := by
  subst hn
  exact bytes_own h
/-- The same list, where the first i rows were appended to. -/
structure Mid (w : World) (lb M : Nat) (g cc : Nat → Nat) (ct : Nat → List Int) (i : Nat) : Prop where
  lst : w.heap[lb]? = some (.cells #[.slice (some ⟨g 0, 0, none⟩) M (cc 0), .slice (some ⟨g 1, 0, none⟩) M (cc 1), .slice (some ⟨g 2, 0, none⟩) M (cc 2)] 22 (0, 0))
  ln : ∀ j, j < 3 → M = (ct j).length
  by' : ∀ j, j < 3 → BytesIn w (some ⟨g j, 0, none⟩) (ct j)
  row : ∀ j, j < 3 → i ≤ j → w.ownsRow 0 5 1 (.slice (some ⟨g j, 0, none⟩) M (cc j)) M (cellsB (ct j))
  ne : ∀ j k, j < 3 → k < 3 → j ≠ k → g j ≠ g k
  nl : ∀ j, j < 3 → g j ≠ lb
theorem Rows3.mid {w : World} {lb M : Nat} {g cc : Nat → Nat} {ct : Nat → List Int} (h : Rows3 w lb M g cc ct) : Mid w lb M g cc ct 0 :=
  ⟨h.lst, fun j hj => (h.row j hj).2, fun j hj => own_bytes (h.row j hj).1 (h.row j hj).2, fun j hj _ => (h.row j hj).1, h.ne, h.nl⟩
structure App (w0 wr : World) (b0 : Nat) (out : List Int) (a : Option Addr) (n c : Nat) (ex : List Int) : Prop where
  own : wr.ownsRow 0 5 1 (.slice a n c) n (cellsB (out ++ ex))
  ln : n = (out ++ ex).length
  ob : ∀ b, (Value.slice a n c).ownBlock = some b → b = b0 ∨ w0.heap.size ≤ b
  by' : BytesIn wr (some ⟨b0, 0, none⟩) out
  up : Upd (fun k => k = b0) w0 wr
theorem Mid.app {w : World} {lb M : Nat} {g cc : Nat → Nat} {ct : Nat → List Int} {i : Nat} (h : Mid w lb M g cc ct i) (hi : i < 3) : App w w (g i) (ct i) (some ⟨g i, 0, none⟩) M (cc i) [] :=
  ⟨by rw [List.append_nil]; exact h.row i hi (Nat.le_refl _), by rw [List.append_nil]; exact h.ln i hi, fun b hb => by cases hb; exact .inl rfl, h.by' i hi, Upd.refl _ _⟩
theorem App.step {w0 wr : World} {b0 : Nat} {out : List Int} {a : Option Addr} {n c : Nat} {ex : List Int} (h : App w0 wr b0 out a n c ex) (hn : n + 1 ≤ 100000000) (x : Int) :
    ∃ a' c' w1, (Builtin.append_ #[22, 22] 22 #[.slice a n c, .slice (some ⟨wr.heap.size, 0, none⟩) 1 1]).run Try.prog (wr.alloc (.cells #[.int .u8 x] 5)) = .ok (.slice a' (n + 1) c') w1 ∧ App w0 w1 b0 out a' (n + 1) c' (ex ++ [x]) := by
  have hal := (Below.refl _ wr).alloc (Nat.le_refl _) (.cells #[.int .u8 x] 5)
  have X := heap_alloc_new wr (.cells #[.int .u8 x] 5)
  have hs := h.up.size
  have ho : (wr.alloc (.cells #[.int .u8 x] 5)).ownsRow 0 5 1 (.slice a n c) n (cellsB (out ++ ex)) := h.own.alloc _
  obtain ⟨a', c', w1, k1, k2, k3, k4, k5⟩ := app_prefix ho h.ln (Nat.zero_le _) (h.by'.below hal) (some ⟨wr.heap.size, 0, none⟩) 1 1 [x] rfl (bytes_of X rfl) hn
  have hu : Upd (fun k => k = b0) w0 w1 := (h.up.alloc _).trans (Upd.of_grown k3) (fun k hk e => by
    rcases h.ob k e with e | e
    · exact e
    · omega)
  refine ⟨a', c', w1, k1, k2, ?_, fun b hb => ?_, k5, hu⟩
  · have := h.ln
    simp only [List.length_append, List.length_cons, List.length_nil] at this ⊢
    omega
  · rcases k4 with e | e
    · exact h.ob b (e.symm.trans hb)
    · rw [e] at hb
      cases hb
      have : (wr.alloc (.cells #[.int .u8 x] 5)).heap.size = wr.heap.size + 1 := by simp
      exact .inr (by omega)
theorem Mid.next {w0 w1 : World} {lb M : Nat} {g cc : Nat → Nat} {ct : Nat → List Int} {i : Nat} (h : Mid w0 lb M g cc ct i) (hi : i < 3) {a : Option Addr} {n c : Nat} {ex : List Int} (k : App w0 w1 (g i) (ct i) a n c ex) : Mid w1 lb M g cc ct (i + 1) := by
  refine ⟨(k.up.block lb (blk_lt h.lst) (fun e => h.nl i hi e.symm)).trans h.lst, h.ln, fun j hj => ?_, fun j hj hij => own_same (h.row j hj (by omega)) fun b hb => ?_, h.ne, h.nl⟩
  · by_cases hji : j = i
    · subst hji
      exact k.by'
    · exact (h.by' j hj).out k.up (h.ne j i hj hi hji)
  · cases hb
    exact k.up.block _ (by
      rcases (h.row j hj (by omega)).2 with ⟨hh, _⟩ | ⟨b, cap, cur, hh, _, hg, _⟩
      · cases hh
      · cases hh
        exact blk_lt hg) (h.ne j i hj hi (by omega))
/-- A file's copy, in a variable of its own. -/
structure YF (w W : World) (t yg yc q : Nat) (L : Int) (bl : List Nat) : Prop where
  hy : W.heap[t]? = some (.cells #[.slice (some ⟨yg, 0, none⟩) q yc, .int .i64 L] 39 (0, 0))
  oy : W.ownsRow 0 3 1 (.slice (some ⟨yg, 0, none⟩) q yc) q (cellsN bl)
  bw : Below w.heap.size w W
  nt : w.heap.size ≤ t
  ng : w.heap.size ≤ yg
  ne : yg ≠ t
theorem YF.one {w u : World} {yg yc q : Nat} {L : Int} {bl : List Nat} (oy : u.ownsRow 0 3 1 (.slice (some ⟨yg, 0, none⟩) q yc) q (cellsN bl)) (bw : Below w.heap.size w u) (ng : w.heap.size ≤ yg) : YF w (u.alloc (.cells #[.slice (some ⟨yg, 0, none⟩) q yc, .int .i64 L] 39)) u.heap.size yg yc q L bl := by
  have hyl := (oy.lt yg rfl).2
  exact ⟨heap_alloc_new u _, oy.alloc _, bw.alloc bw.size _, bw.size, ng, by omega⟩
theorem YF.two {w u : World} {t yg yc q : Nat} {L : Int} {bl : List Nat} {x y : Value} (z : u.heap[t]? = some (.cells #[x, y] 39 (0, 0))) (oy : u.ownsRow 0 3 1 (.slice (some ⟨yg, 0, none⟩) q yc) q (cellsN bl)) (bw : Below w.heap.size w u) (nt : w.heap.size ≤ t) (ng : w.heap.size ≤ yg) (ne : yg ≠ t) :
    YF w ((u.setCell ⟨t, 0, none⟩ (.slice (some ⟨yg, 0, none⟩) q yc)).setCell ⟨t, 1, none⟩ (.int .i64 L)) t yg yc q L bl := by
  have u1 : Upd (fun k => k = t) u ((u.setCell ⟨t, 0, none⟩ (.slice (some ⟨yg, 0, none⟩) q yc)).setCell ⟨t, 1, none⟩ (.int .i64 L)) := ((Upd.refl (fun k => k = t) u).setCell (p := ⟨t, 0, none⟩) (fun _ => rfl) _).setCell (p := ⟨t, 1, none⟩) (fun _ => rfl) _
  have hyl := (oy.lt yg rfl).2
  refine ⟨?_, own_same oy fun k hk => ?_, (bw.setCell (p := ⟨t, 0, none⟩) nt _).setCell (p := ⟨t, 1, none⟩) nt _, nt, ng, ne⟩
  · have h1 := heap_setCell_same u t 0 _ _ (.slice (some ⟨yg, 0, none⟩) q yc) z
    have h2 := heap_setCell_same _ t 1 _ _ (.int .i64 L) h1
    exact h2
  · have hk' : yg = k := Option.some.inj hk
    rw [← hk']
    exact u1.block _ hyl ne
theorem Mid.get {w : World} {lb M : Nat} {g cc : Nat → Nat} {m : List Int} (h : Mid w lb M g cc (mk3 m 3 0) 3) (hM : M = m.length) {i k : Nat} (hi : i < 3) (hk : k < M) : w.cell? ⟨g i, k, none⟩ = some (.int .u8 ((i : Int) + 1)) := by
  have e : mk3 m 3 0 i = List.replicate m.length ((i : Int) + 1) := by
    unfold mk3
    rw [if_pos hi]
  have hb := h.by' i hi
  rw [e] at hb
  obtain ⟨b, x, e1, _, hc⟩ := hb (fun h0 => by
    have := congrArg List.length h0
    simp only [List.length_replicate, List.length_nil] at this
    omega)
  cases e1
  have := hc k (by simp only [List.length_replicate]; omega)
  rw [Nat.zero_add, List.getElem_replicate] at this
  exact this
theorem mid_same {w : World} {lb M : Nat} {g cc : Nat → Nat} {ct : Nat → List Int} {i : Nat} (h : Mid w lb M g cc ct i) {j : Nat} (hj : j < 3) : w.cell? ⟨lb, j, none⟩ = some (.slice (some ⟨g j, 0, none⟩) M (cc j)) := Rows3.at h.lst hj
end Go.Proofs.Ytkhejipcclpknaa
