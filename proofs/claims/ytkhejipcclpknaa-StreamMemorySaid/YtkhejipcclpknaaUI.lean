/- A reader of the input that is read in pieces. No statement is proved here. -/
import Derived.Test.YtkhejipcclpknaaUH
set_option linter.unusedVariables false
set_option linter.unusedSimpArgs false
namespace Go.Proofs.Ytkhejipcclpknaa
open Go.RowKit

theorem app_slc {w : World} {B : Nat} {a : Option Addr} {n c : Nat} {out : List Int} (h : w.ownsRow B 5 1 (.slice a n c) n (cellsB out)) (hn : n = out.length) (hB : B ≤ w.heap.size) (sa : Option Addr) (k cs : Nat) (ls : List Int) (hk : ls.length = k) (hb : BytesIn w sa ls) (hl : n + k ≤ 100000000) :
    ∃ a' c' w1, (Builtin.append_ #[22, 22] 22 #[.slice a n c, .slice sa k cs]).run Try.prog w = .ok (.slice a' (n + k) c') w1 ∧ w1.ownsRow B 5 1 (.slice a' (n + k) c') (n + k) (cellsB (out ++ ls)) ∧ w.grownBy w1 (Value.slice a n c).ownBlock ∧ ((Value.slice a' (n + k) c').ownBlock = (Value.slice a n c).ownBlock ∨ (Value.slice a' (n + k) c').ownBlock = some w.heap.size) := by
  obtain ⟨ti, hi, hz0, hz1, hz2⟩ := info_parts infoB
  by_cases hne : ls = []
  · subst hne
    simp only [List.length_nil] at hk
    subst hk
    have hle : n ≤ c := by
      rcases h.2 with ⟨hh, h0⟩ | ⟨b, cap, cur, hh, _, _, hle, _⟩
      · omega
      · cases hh
        exact hle
    exact ⟨a, c, w, run_append_zero w 22 22 5 1 Try.underlying22 sizeB a sa n c cs hle, by rw [List.append_nil]; exact h, ⟨rfl, rfl, rfl, Nat.le_refl _, fun _ _ _ => rfl⟩, .inl rfl⟩
  · obtain ⟨q, off, rfl, hq, hby⟩ := hb hne
    obtain ⟨v', w1, k1, k2, k3, k4⟩ := run_append_own3 w B 22 22 5 ti (.int .u8 0) 1 1 Try.underlying22 hi hz0 hz1 hz2 rfl _ _ _ h ⟨q, off, none⟩ k cs (cellsB ls) (by rw [cellsB_length, hk, Nat.mul_one]) (fun j u hj => by
      have hj' : j < ls.length := by
        have := (List.getElem?_eq_some_iff.1 hj).1
        rwa [cellsB_length] at this
      rw [cellsB_get ls j hj'] at hj
      rw [Addr.add_lit]
      exact (hby j hj').trans hj) (cellsB_one ls) (by unfold maxLen; omega) (by omega) hB
    obtain ⟨a', c', rfl⟩ := own_slc k2
    refine ⟨a', c', w1, k1, ?_, k3, k4.imp id fun h => h.1⟩
    have e3 : cellsB (out ++ ls) = cellsB out ++ cellsB ls := by simp [cellsB]
    rw [e3]
    exact k2
def bad (m : Int) : Bool := decide (m < 0) || decide (65536 < m)
def AskOn (w : World) (p : Nat) (d : Dl) (oc o : Option Nat) (R : Rd) (D : Dv) (c : List Int) (m : Int) (e : Ending) (w' : World) : Prop :=
  ∃ av cv K o1 R1 D1, K = (if bad m = true then 0 else min m.toNat (R.size - R.pos)) ∧ e = .returned (.tuple #[.slice av K cv, .int .i64 (if bad m = true then 81 else 0)]) ∧ w'.ownsRow w.heap.size 5 1 (.slice av K cv) K (cellsB ((c.drop R.pos).take K)) ∧ ((c.drop R.pos).take K).length = K ∧ (∀ k, (Value.slice av K cv).ownBlock = some k → o1 ≠ some k) ∧
    ROn w' p d oc o1 R1 D1 c ∧ RhStep w w' p d oc o o1 ∧ R1.pos = R.pos + K ∧ R1.size = R.size ∧ R1.chain = R.chain ∧ RSt R.chain.isSome (hd D.unit R1.pos - hd D.unit R.pos) D D1
theorem ask_on {w : World} {p : Nat} {d : Dl} {oc o : Option Nat} {R : Rd} {D : Dv} {c : List Int} (h : ROn w p d oc o R D c) (hc : cOk D) (m : Int) (hm : -9223372036854775808 ≤ m ∧ m ≤ 9223372036854775807) :
    Calls Try.prog 19 #[.pointer (some ⟨p, 0, none⟩), .int .i64 m] w (AskOn w p d oc o R D c m) := by
  by_cases hb : m < 0 ∨ 65536 < m
  · have hbd : bad m = true := by unfold bad; simpa using hb
    have hw := read_bytes h.mem h.good.ok m hm
    have hr : rRead R D m = (81, [], R, D) := by
      unfold rRead
      rw [if_neg (by rw [h.fa]; simp), if_pos hb]
    rw [hr] at hw
    refine hw.mono ?_
    rintro e w' ⟨v, o1, rfl, k1, k2, k3, k4⟩
    obtain ⟨av, cv, rfl⟩ := own_slc k1
    refine ⟨av, cv, 0, o1, R, D, by rw [if_pos hbd], by rw [if_pos hbd]; rfl, by rw [List.take_zero]; exact k1, by simp, k2, ⟨k3, h.good, h.fa, h.hh⟩, k4, rfl, rfl, rfl, ?_⟩
    rw [Int.sub_self]
    exact RSt.refl _ _
  · have hbd : ¬ bad m = true := by unfold bad; simpa using hb
    obtain ⟨n, rfl⟩ := Int.eq_ofNat_of_zero_le (show 0 ≤ m by omega)
    refine (read_on h hc n (by omega)).mono ?_
    rintro e w' ⟨v, o1, R1, D1, rfl, k1, k2, k3, k4, k5, k6, k7, k8⟩
    have hz := h.good.sz
    have hlen : ((c.drop R.pos).take n).length = min n (R.size - R.pos) := by rw [List.length_take, List.length_drop, hz]
    have htk : (c.drop R.pos).take n = (c.drop R.pos).take (min n (R.size - R.pos)) := by
      by_cases hl : n ≤ R.size - R.pos
      · rw [Nat.min_eq_left hl]
      · rw [List.take_of_length_le (by rw [List.length_drop]; omega), List.take_of_length_le (by rw [List.length_drop]; omega)]
    rw [htk] at k1 hlen
    rw [hlen] at k1
    obtain ⟨av, cv, rfl⟩ := own_slc k1
    exact ⟨av, cv, min n (R.size - R.pos), o1, R1, D1, by rw [if_neg hbd]; rfl, by rw [if_neg hbd], k1, hlen, k2, k3, k4, k5, k6, k7, k8⟩
/-- The input as it is read in pieces. -/
structure Inp (w w7 wr : World) (p : Nat) (d : Dl) (o : Option Nat) (R : Rd) (D : Dv) (l : List Int) (pos : Nat) (a : Option Addr) (n c : Nat) : Prop where
  on : ROn wr p d none o R D l
  ch : R.chain = none
  ps : R.pos = pos
  np : n = pos
  ow : wr.ownsRow w7.heap.size 5 1 (.slice a n c) n (cellsB (l.take pos))
  ne : ∀ k, (Value.slice a n c).ownBlock = some k → o ≠ some k
  ci : D.ci = hd D.unit pos + 1
  cs : D.cs = 0
  be : Below w.heap.size w wr
  sz : w7.heap.size ≤ wr.heap.size
  nw : ∀ k, (rS p none o k ∨ d.S k) → w.heap.size ≤ k
  lt : p < w7.heap.size ∧ (∀ k, d.S k → k < w7.heap.size) ∧ w.heap.size ≤ w7.heap.size
theorem Inp.le {w w7 wr : World} {p : Nat} {d : Dl} {o : Option Nat} {R : Rd} {D : Dv} {l : List Int} {pos : Nat} {a : Option Addr} {n c : Nat} (h : Inp w w7 wr p d o R D l pos a n c) : pos ≤ l.length ∧ l.length = R.size := by
  have h1 := h.on.good.ok.pos
  have h2 := h.on.good.sz
  have h3 := h.ps
  omega
theorem Inp.cok {w w7 wr : World} {p : Nat} {d : Dl} {o : Option Nat} {R : Rd} {D : Dv} {l : List Int} {pos : Nat} {a : Option Addr} {n c : Nat} (h : Inp w w7 wr p d o R D l pos a n c) (hl : l.length ≤ 100000000) : cOk D := by
  have h0 := hd_le (u := D.unit) (a := pos)
  have := h.le
  have := h.ci
  have := h.cs
  unfold cOk
  omega
theorem Inp.below {w w7 wr w' : World} {p : Nat} {d : Dl} {o : Option Nat} {R : Rd} {D : Dv} {l : List Int} {pos : Nat} {a : Option Addr} {n c : Nat} (h : Inp w w7 wr p d o R D l pos a n c) (hb : Below wr.heap.size wr w') : Inp w w7 w' p d o R D l pos a n c :=
  ⟨h.on.below hb, h.ch, h.ps, h.np, own_same h.ow fun k hk => hb.block k (by
    rcases h.ow.2 with ⟨hh, _⟩ | ⟨b, cap, cur, hh, _, hg, _⟩
    · rw [hh] at hk; cases hk
    · rw [hh] at hk
      cases hk
      exact blk_lt hg), h.ne, h.ci, h.cs, h.be.trans (hb.mono h.be.size), Nat.le_trans h.sz hb.size, h.nw, h.lt⟩
/-- What stands between a piece that was read and its being taken. -/
structure InpMid (w w7 w9 : World) (p : Nat) (d : Dl) (o : Option Nat) (R : Rd) (D : Dv) (l : List Int) (pos K : Nat) (a : Option Addr) (n c : Nat) (av : Option Addr) (cv : Nat) : Prop where
  on : ROn w9 p d none o R D l
  ch : R.chain = none
  ps : R.pos = pos + K
  np : n = pos
  ow : w9.ownsRow w7.heap.size 5 1 (.slice a n c) n (cellsB (l.take pos))
  ne : ∀ k, (Value.slice a n c).ownBlock = some k → o ≠ some k
  ci : D.ci = hd D.unit (pos + K) + 1
  cs : D.cs = 0
  be : Below w.heap.size w w9
  sz : w7.heap.size ≤ w9.heap.size
  nw : ∀ k, (rS p none o k ∨ d.S k) → w.heap.size ≤ k
  lt : p < w7.heap.size ∧ (∀ k, d.S k → k < w7.heap.size) ∧ w.heap.size ≤ w7.heap.size
  by' : BytesIn w9 av ((l.drop pos).take K)
  lk : ((l.drop pos).take K).length = K
theorem Inp.mid {w w7 wr w9 : World} {p : Nat} {d : Dl} {o o1 : Option Nat} {R R1 : Rd} {D D1 : Dv} {l : List Int} {pos K : Nat} {a av : Option Addr} {n c cv : Nat} (h : Inp w w7 wr p d o R D l pos a n c)
    (hv : w9.ownsRow wr.heap.size 5 1 (.slice av K cv) K (cellsB ((l.drop pos).take K))) (hk : ((l.drop pos).take K).length = K) (hr : ROn w9 p d none o1 R1 D1 l) (st : RhStep wr w9 p d none o o1) (hp : R1.pos = pos + K) (hch : R1.chain = R.chain) (hs : RSt R.chain.isSome (hd D.unit R1.pos - hd D.unit pos) D D1) : InpMid w w7 w9 p d o1 R1 D1 l pos K a n c av cv := by
  have hle : ∀ k, (Value.slice a n c).ownBlock = some k → w7.heap.size ≤ k ∧ k < wr.heap.size := fun k hk => by
    rcases h.ow.2 with ⟨hh, _⟩ | ⟨b, cap, cur, hh, hb, hg, _⟩
    · rw [hh] at hk; cases hk
    · rw [hh] at hk
      cases hk
      exact ⟨hb, blk_lt hg⟩
  rw [h.ch] at hs
  have e1 := hs.ci
  have e2 := hs.cs
  simp only [Option.isSome_none, Bool.false_eq_true, if_false] at e1 e2
  refine ⟨hr, hch.trans h.ch, hp, h.np, own_same h.ow fun k hk => st.up.block k (hle k hk).2 fun hh => ?_, fun k hk e => ?_, ?_, ?_, ?_, Nat.le_trans h.sz st.up.size, fun k hk => ?_, h.lt, bytes_own (by rw [hk]; exact hv), hk⟩
  · have := (hle k hk).1
    rcases hh with (hh | hh | hh) | hh
    · have := h.lt.1; omega
    · cases hh
    · exact h.ne k hk hh
    · have := h.lt.2.1 k hh; omega
  · rcases st.h1 k e with e | e
    · exact h.ne k hk e
    · have := (hle k hk).2; omega
  · rw [e1, h.ci, hs.un, hp]
    omega
  · rw [e2, h.cs]
    rfl
  · exact h.be.trans (st.up.below (B := w.heap.size) h.be.size h.nw)
  · rcases hk with (hk | hk | hk) | hk
    · exact h.nw k (.inl (.inl hk))
    · cases hk
    · rcases st.h1 k hk with e | e
      · exact h.nw k (.inl (.inr (.inr e)))
      · have := h.sz; have := h.lt.2.2; omega
    · exact h.nw k (.inr hk)
/-- The piece is taken. -/
theorem InpMid.take {w w7 w9 : World} {p : Nat} {d : Dl} {o : Option Nat} {R : Rd} {D : Dv} {l : List Int} {pos K : Nat} {a av : Option Addr} {n c cv : Nat} (h : InpMid w w7 w9 p d o R D l pos K a n c av cv) (hl : n + K ≤ 100000000) :
    ∃ a' c' w1, (Builtin.append_ #[22, 22] 22 #[.slice a n c, .slice av K cv]).run Try.prog w9 = .ok (.slice a' (n + K) c') w1 ∧ Inp w w7 w1 p d o R D l (pos + K) a' (n + K) c' := by
  have hpl := h.on.good.ok.pos
  have hsz := h.on.good.sz
  have hps := h.ps
  obtain ⟨a', c', w1, k1, k2, k3, k4⟩ := app_slc h.ow (by rw [List.length_take]; have := h.np; omega) h.sz av K cv _ h.lk h.by' hl
  have hle : ∀ k, (Value.slice a n c).ownBlock = some k → w7.heap.size ≤ k ∧ k < w9.heap.size := fun k hk => by
    rcases h.ow.2 with ⟨hh, _⟩ | ⟨b, cap, cur, hh, hb, hg, _⟩
    · rw [hh] at hk; cases hk
    · rw [hh] at hk
      cases hk
      exact ⟨hb, blk_lt hg⟩
  have UP := Upd.of_grown k3
  have hnS : ∀ k, (rS p none o k ∨ d.S k) → ¬ ((Value.slice a n c).ownBlock = some k) := fun k hk e => by
    have hge := (hle k e).1
    rcases hk with (hk | hk | hk) | hk
    · have := h.lt.1; omega
    · cases hk
    · exact h.ne k e hk
    · have := h.lt.2.1 k hk; omega
  refine ⟨a', c', w1, k1, ⟨⟨h.on.mem.beside UP hnS, h.on.good, h.on.fa, h.on.hh⟩, h.ch, h.ps, by rw [h.np], ?_, fun k hk e => ?_, h.ci, h.cs, ?_, Nat.le_trans h.sz UP.size, h.nw, h.lt⟩⟩
  · rw [List.take_add]
    exact k2
  · rcases k4 with k4 | k4
    · exact h.ne k (k4.symm.trans hk) e
    · rw [k4] at hk
      have e2 : w9.heap.size = k := Option.some.inj hk
      have := h.on.mem.rd.lt k (.inr (.inr e))
      omega
  · exact h.be.trans (UP.below (B := w.heap.size) h.be.size fun k hk => by
      have := (hle k hk).1
      have := h.lt.2.2
      omega)
end Go.Proofs.Ytkhejipcclpknaa
