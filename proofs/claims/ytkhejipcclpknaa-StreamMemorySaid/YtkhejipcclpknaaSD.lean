/- A device as plain data and in memory; which fault strikes. No statement is proved here. -/
import Derived.Test.YtkhejipcclpknaaSK
import Derived.Deep.LoopGhost
import Derived.Deep.Cut
import Derived.StillTailTactics
set_option linter.unusedVariables false
set_option linter.unusedSimpArgs false
namespace Go.Proofs.Ytkhejipcclpknaa
open Go.RowKit

/-- A fault. -/
structure Fl where
  kind : Int
  blk : Int
  nth : Int
  keep : Int
@[reducible] def Fl.cs (f : Fl) : List Value := [.int .i64 f.kind, .int .i64 f.blk, .int .i64 f.nth, .int .i64 f.keep]
abbrev Fl.agg (f : Fl) : Value := .agg #[.int .i64 f.kind, .int .i64 f.blk, .int .i64 f.nth, .int .i64 f.keep]
def cellsF : List Fl → List Value
  | [] => []
  | f :: r => f.cs ++ cellsF r
theorem cellsF_length : ∀ l : List Fl, (cellsF l).length = l.length * 4
  | [] => rfl
  | f :: r => by simp [cellsF, cellsF_length r]; omega
theorem cellsF_one : ∀ l : List Fl, ∀ v ∈ cellsF l, v.oneCell' = true
  | [], v, h => by simp [cellsF] at h
  | f :: r, v, h => by
    simp only [cellsF, List.mem_append] at h
    rcases h with h | h
    · simp [Fl.cs] at h
      rcases h with rfl | rfl | rfl | rfl <;> rfl
    · exact cellsF_one r v h
theorem cellsF_get : ∀ (l : List Fl) (i j : Nat) (hi : i < l.length), j < 4 → (cellsF l)[i * 4 + j]? = (l[i]).cs[j]?
  | f :: r, 0, j, _, hj => by
    simp only [cellsF, Nat.zero_mul, Nat.zero_add, List.getElem_cons_zero]
    rw [List.getElem?_append_left (by simpa [Fl.cs] using hj)]
  | f :: r, i + 1, j, hi, hj => by
    simp only [cellsF, List.getElem_cons_succ]
    rw [List.getElem?_append_right (by simp [Fl.cs]; omega), show (i + 1) * 4 + j - (Fl.cs f).length = i * 4 + j by simp [Fl.cs]; omega]
    exact cellsF_get r i j (by simpa using hi) hj
def cellsB (l : List Int) : List Value := l.map fun (x : Int) => Value.int .u8 x
theorem cellsB_length (l : List Int) : (cellsB l).length = l.length := by simp [cellsB]
theorem cellsB_append (a b : List Int) : cellsB (a ++ b) = cellsB a ++ cellsB b := by simp [cellsB]
theorem cellsB_get (l : List Int) (i : Nat) (hi : i < l.length) : (cellsB l)[i]? = some (.int .u8 l[i]) := by simp [cellsB, hi]
theorem cellsB_one (l : List Int) : ∀ v ∈ cellsB l, v.oneCell' = true := fun v h => by
  obtain ⟨x, _, rfl⟩ := List.mem_map.1 h
  rfl
/-- A device. -/
structure Dv where
  unit : Nat
  scr : Nat
  inp : List Int
  mem : List Int
  fs : List Fl
  rd : Int → Int → Int
  ci : Int
  cs : Int
  cw : Int
  ck : Int
  down : Bool
def wr64 (x : Int) : Int := wrap64 x
/-- The fault that strikes. -/
def Dv.hit (D : Dv) (kind blk nth : Int) : Option Fl := D.fs.find? fun f => decide (f.kind = kind) && (decide (f.nth = nth) && (decide (3 ≤ kind) || decide (f.blk = blk)))
/-- Where a device lies. -/
structure Dl where
  g : Nat
  ib : Nat
  ic : Nat
  sb : Nat
  mb : Nat
  fv : Value
def Dl.S (d : Dl) (k : Nat) : Prop := k = d.g ∨ k = d.ib ∨ k = d.sb ∨ k = d.mb ∨ d.fv.ownBlock = some k
def Dv.cells (D : Dv) (d : Dl) : Array Value := #[.int .i64 D.unit, .int .i64 D.scr, .slice (some ⟨d.ib, 0, none⟩) D.inp.length d.ic, .slice (some ⟨d.sb, 0, none⟩) (D.unit * D.scr) (D.unit * D.scr), d.fv, .map (some d.mb), .int .i64 D.ci, .int .i64 D.cs, .int .i64 D.cw, .int .i64 D.ck, .bool D.down]
structure DvM (w : World) (d : Dl) (D : Dv) : Prop where
  hg : w.heap[d.g]? = some (.cells (D.cells d) 78 (0, 0))
  hi : ∃ cur : Array Value, w.heap[d.ib]? = some (.cells cur 5 (0, 0)) ∧ D.inp.length ≤ d.ic ∧ d.ic ≤ maxLen ∧ cur.size = d.ic ∧ ∀ i (h : i < D.inp.length), cur[i]? = some (.int .u8 D.inp[i])
  hs : ∃ cur : Array Value, w.heap[d.sb]? = some (.cells cur 5 (0, 0)) ∧ cur.toList = cellsB D.mem
  hm : PMap w d.mb D.rd
  hf : w.ownsRow 0 60 4 d.fv D.fs.length (cellsF D.fs)
  ap : d.g ≠ d.ib ∧ d.g ≠ d.sb ∧ d.g ≠ d.mb ∧ d.ib ≠ d.sb ∧ d.ib ≠ d.mb ∧ d.sb ≠ d.mb ∧ d.fv.ownBlock ≠ some d.g ∧ d.fv.ownBlock ≠ some d.ib ∧ d.fv.ownBlock ≠ some d.sb ∧ d.fv.ownBlock ≠ some d.mb
  u0 : 16 ≤ D.unit
  u1 : D.unit ≤ 1024
  s1 : D.scr ≤ 4096
  i1 : D.inp.length ≤ 4194304
  ml : D.mem.length = D.unit * D.scr
  fl : D.fs.length ≤ 64
  fk : ∀ f ∈ D.fs, 0 ≤ f.keep ∧ f.keep ≤ D.unit
section
variable {w w' : World} {d : Dl} {D : Dv}
theorem own_lt4 {v : Value} {l : List Fl} (h : w.ownsRow 0 60 4 v l.length (cellsF l)) : ∀ k, v.ownBlock = some k → k < w.heap.size := by
  intro k hk
  rcases h.2 with ⟨rfl, _⟩ | ⟨g, cap, cur, rfl, _, hg, _⟩
  · cases hk
  · cases hk
    exact blk_lt hg
theorem own_same {base : Nat} {e : TypeId} {size : Nat} {v : Value} {n : Nat} {xs : List Value} (h : w.ownsRow base e size v n xs) (hb : ∀ k, v.ownBlock = some k → w'.heap[k]? = w.heap[k]?) : w'.ownsRow base e size v n xs := by
  refine ⟨h.1, ?_⟩
  rcases h.2 with hn | ⟨g, cap, cur, rfl, hB, hgg, rest⟩
  · exact .inl hn
  · exact .inr ⟨g, cap, cur, rfl, hB, (hb g rfl).trans hgg, rest⟩
theorem DvM.lt (h : DvM w d D) : ∀ k, d.S k → k < w.heap.size := by
  rintro k (rfl | rfl | rfl | rfl | hk)
  · exact blk_lt h.hg
  · obtain ⟨cur, h1, _⟩ := h.hi
    exact blk_lt h1
  · obtain ⟨cur, h1, _⟩ := h.hs
    exact blk_lt h1
  · exact h.hm.lt
  · exact own_lt4 h.hf k hk
/-- A device whose blocks are left alone. -/
theorem DvM.kept (h : DvM w d D) (hb : ∀ k, d.S k → w'.heap[k]? = w.heap[k]?) : DvM w' d D := by
  refine ⟨(hb _ (.inl rfl)).trans h.hg, ?_, ?_, h.hm.kept (hb _ (.inr (.inr (.inr (.inl rfl))))), own_same h.hf fun k hk => hb k (.inr (.inr (.inr (.inr hk)))), h.ap, h.u0, h.u1, h.s1, h.i1, h.ml, h.fl, h.fk⟩
  · obtain ⟨cur, h1, r⟩ := h.hi
    exact ⟨cur, (hb _ (.inr (.inl rfl))).trans h1, r⟩
  · obtain ⟨cur, h1, r⟩ := h.hs
    exact ⟨cur, (hb _ (.inr (.inr (.inl rfl)))).trans h1, r⟩
theorem DvM.upd {S : Nat → Prop} (h : DvM w d D) (u : Upd S w w') (hd : ∀ k, d.S k → ¬ S k) : DvM w' d D := h.kept fun k hk => u.block k (h.lt k hk) (hd k hk)
theorem DvM.below (h : DvM w d D) (u : Below w.heap.size w w') : DvM w' d D := h.kept fun k hk => u.block k (h.lt k hk)
theorem DvM.cell (h : DvM w d D) (i : Nat) : w.cell? ⟨d.g, i, none⟩ = (D.cells d)[i]? := blk_cell h.hg i
theorem DvM.free (h : DvM w d D) (i : Nat) : w.frozen? ⟨d.g, i, none⟩ = false := blk_free h.hg i
end
/-- A slice of faults that can be read. -/
theorem own_fin {w : World} {v : Value} {l : List Fl} (h : w.ownsRow 0 60 4 v l.length (cellsF l)) : ∃ a cap, v = .slice a l.length cap ∧ (l ≠ [] → ∃ b, a = some ⟨b, 0, none⟩ ∧ b < w.heap.size ∧ ∀ i (hi : i < l.length) j, j < 4 → w.cell? ⟨b, i * 4 + j, none⟩ = (l[i]).cs[j]?) := by
  rcases h.2 with ⟨rfl, h0⟩ | ⟨g, cap, cur, rfl, k0, hg, hle, rest⟩
  · exact ⟨none, 0, by rw [h0], fun hh => absurd (List.eq_nil_of_length_eq_zero h0) hh⟩
  · refine ⟨_, _, rfl, fun _ => ⟨g, rfl, blk_lt hg, fun i hi j hj => ?_⟩⟩
    have hget := cellsF_get l i j hi hj
    have h2 : (l[i]).cs[j]? = some ((l[i]).cs[j]'(by simpa [Fl.cs] using hj)) := List.getElem?_eq_getElem _
    have := h.cells (g := g) rfl (i * 4 + j) _ (hget.trans h2)
    rw [Addr.add_lit, Nat.zero_add] at this
    rw [this, h2]
theorem set4 {w : World} {b : Nat} {t : TypeId} {a0 a1 a2 a3 : Value} (h : w.heap[b]? = some (.cells #[a0, a1, a2, a3] t (0, 0))) (v0 v1 v2 v3 : Value) :
    ((((w.setCell ⟨b, 0, none⟩ v0).setCell ⟨b, 1, none⟩ v1).setCell ⟨b, 2, none⟩ v2).setCell ⟨b, 3, none⟩ v3).heap[b]? = some (.cells #[v0, v1, v2, v3] t (0, 0)) := by
  have h1 := heap_setCell_same w b 0 _ t v0 h
  have h2 := heap_setCell_same _ b 1 _ t v1 h1
  have h3 := heap_setCell_same _ b 2 _ t v2 h2
  exact heap_setCell_same _ b 3 _ t v3 h3
theorem set4_below {B : Nat} (w : World) (b : Nat) (v0 v1 v2 v3 : Value) (hB : B ≤ b) : Below B w ((((w.setCell ⟨b, 0, none⟩ v0).setCell ⟨b, 1, none⟩ v1).setCell ⟨b, 2, none⟩ v2).setCell ⟨b, 3, none⟩ v3) :=
  ((((Below.refl B w).setCell (p := ⟨b, 0, none⟩) hB v0).setCell (p := ⟨b, 1, none⟩) hB v1).setCell (p := ⟨b, 2, none⟩) hB v2).setCell (p := ⟨b, 3, none⟩) hB v3
def hitV : Option Fl → Value
  | some f => .tuple #[f.agg, .bool true]
  | none => .tuple #[.agg #[.int .i64 0, .int .i64 0, .int .i64 0, .int .i64 0], .bool false]
set_option maxHeartbeats 4000000 in
set_option maxRecDepth 100000 in
theorem struck_any {w : World} {d : Dl} {D : Dv} (h : DvM w d D) (kind blk nth : Int) :
    Calls Try.prog 67 #[.pointer (some ⟨d.g, 0, none⟩), .int .i64 kind, .int .i64 blk, .int .i64 nth] w fun e w' => e = .returned (hitV (D.hit kind blk nth)) ∧ Below w.heap.size w w' := by
  obtain ⟨a, cap, hv, hf⟩ := own_fin h.hf
  have HF := hid hf
  have hfl := h.fl
  have f3 : w.cell? ⟨d.g, 4, none⟩ = some (.slice a D.fs.length cap) := (h.cell 4).trans (by rw [← hv]; rfl)
  have hgl := blk_lt h.hg
  have f3' : (w.alloc (.cells #[.int .i64 0, .int .i64 0, .int .i64 0, .int .i64 0] 60)).cell? ⟨d.g, 4, none⟩ = some (.slice a D.fs.length cap) := (((Below.refl _ w).alloc (Nat.le_refl _) (.cells #[.int .i64 0, .int .i64 0, .int .i64 0, .int .i64 0] 60)).cell (p := ⟨d.g, 4, none⟩) hgl).trans f3
  have T0 : Hid ((w.alloc (.cells #[.int .i64 0, .int .i64 0, .int .i64 0, .int .i64 0] 60)).heap[w.heap.size]? = some (.cells #[.int .i64 0, .int .i64 0, .int .i64 0, .int .i64 0] 60 (0, 0))) := hid (heap_alloc_new w _)
  have HB0 := hid ((Below.refl _ w).alloc (Nat.le_refl _) (.cells #[.int .i64 0, .int .i64 0, .int .i64 0, .int .i64 0] 60))
  unfold Dv.hit
  obtain ⟨l, hl⟩ : ∃ l, l = D.fs := ⟨_, rfl⟩
  rw [← hl] at HF hfl f3 f3' ⊢
  obtain ⟨len, hlen⟩ : ∃ len, len = l.length := ⟨_, rfl⟩
  rw [← hlen] at f3 f3' hfl
  have HL := hid hlen
  clear h hv hf hl f3 hlen
  go_enter Try.func67, Try.ntmps67
  go_wp2_with fail
  obtain ⟨w0, hw0⟩ : ∃ w0, w.alloc (.cells #[.int .i64 0, .int .i64 0, .int .i64 0, .int .i64 0] 60) = w0 := ⟨_, rfl⟩
  obtain ⟨tb, htb⟩ : ∃ tb, tb = w.heap.size := ⟨_, rfl⟩
  rw [hw0] at f3' T0 HB0 ⊢
  rw [← htb] at T0 ⊢
  have HT := hid htb
  clear hw0 htb f3'
  go_loopg [17] len (fun gh s17 wr => ∃ p : Nat, p ≤ len ∧ gh = len - p ∧ s17 = .int .i64 p ∧ Hid (Below w0.heap.size w0 wr) ∧ Hid (∀ f ∈ l.take p, (decide (f.kind = kind) && (decide (f.nth = nth) && (decide (3 ≤ kind) || decide (f.blk = blk)))) = false))
  case atStart => exact ⟨0, Nat.zero_le _, by omega, rfl, hid (Below.refl _ _), hid fun f hf => by simp at hf⟩
  case round =>
    obtain ⟨p, hp, rfl, rfl, HB, HN⟩ := hrel
    have T1 := hid ((HB.out.block tb (blk_lt T0.out)).trans T0.out)
    have HBB := hid (HB0.out.trans (HB.out.mono HB0.out.size))
    by_cases hpl : p < len
    · have hpl' : p < l.length := by have := HL.out; omega
      have hne : l ≠ [] := by
        intro h
        rw [h] at hpl'
        simp at hpl'
      obtain ⟨b, rfl, hbl, hc⟩ := HF.out hne
      have hx := fun j hj => (HBB.out.cell (p := ⟨b, p * 4 + j, none⟩) hbl).trans (hc p hpl' j hj)
      have HFD := hid (fun (ht : (decide ((l[p]).kind = kind) && (decide ((l[p]).nth = nth) && (decide (3 ≤ kind) || decide ((l[p]).blk = blk)))) = true) => (show l.find? (fun f => decide (f.kind = kind) && (decide (f.nth = nth) && (decide (3 ≤ kind) || decide (f.blk = blk)))) = some l[p] by
        rw [List.find?_eq_some_iff_getElem]
        refine ⟨ht, p, hpl', rfl, fun j hj => ?_⟩
        have h9 := HN.out (l[j]'(by omega)) (List.mem_take_iff_getElem.2 ⟨j, by omega, rfl⟩)
        rw [h9]
        rfl))
      have HNX := hid (fun (hn : (decide ((l[p]).kind = kind) && (decide ((l[p]).nth = nth) && (decide (3 ≤ kind) || decide ((l[p]).blk = blk)))) = false) => (show ∀ f ∈ l.take (p + 1), (decide (f.kind = kind) && (decide (f.nth = nth) && (decide (3 ≤ kind) || decide (f.blk = blk)))) = false by
        intro f hf
        rw [List.take_succ_eq_append_getElem hpl'] at hf
        rcases List.mem_append.1 hf with hf | hf
        · exact HN.out f hf
        · have : f = l[p] := by simpa using hf
          rw [this]; exact hn))
      clear hc hne
      generalize l[p] = x at *
      obtain ⟨xk, xb, xn, xp⟩ := x
      have x0 : wr.cell? ⟨b, p * 4, none⟩ = some (.int .i64 xk) := hx 0 (by omega)
      have x1 : wr.cell? ⟨b, p * 4 + 1, none⟩ = some (.int .i64 xb) := hx 1 (by omega)
      have x2 : wr.cell? ⟨b, p * 4 + 2, none⟩ = some (.int .i64 xn) := hx 2 (by omega)
      have x3 : wr.cell? ⟨b, p * 4 + 3, none⟩ = some (.int .i64 xp) := hx 3 (by omega)
      have hpI : (p : Int) < (len : Int) := by omega
      have hp63 : (p : Int) + 1 ≤ 9223372036854775807 := by omega
      have hal := (Below.refl _ wr).alloc (Nat.le_refl _) (.cells #[.int .i64 xk, .int .i64 xb, .int .i64 xn, .int .i64 xp] 60)
      have X4 : Hid ((wr.alloc (.cells #[.int .i64 xk, .int .i64 xb, .int .i64 xn, .int .i64 xp] 60)).heap[wr.heap.size]? = some (.cells #[.int .i64 xk, .int .i64 xb, .int .i64 xn, .int .i64 xp] 60 (0, 0))) := hid (heap_alloc_new wr _)
      have HB4 := hid (HB.out.trans (hal.mono HB.out.size))
      have HBB4 := hid (HBB.out.trans (hal.mono HBB.out.size))
      have T4 := hid ((hal.block tb (blk_lt T1.out)).trans T1.out)
      have htx : wr.heap.size ≠ tb := by have := blk_lt T1.out; omega
      clear hx hal HB HBB T1 hbl
      go_upto_region 4 with fail
      clear x0 x1 x2 x3
      obtain ⟨w4, hw4⟩ : ∃ w4, wr.alloc (.cells #[.int .i64 xk, .int .i64 xb, .int .i64 xn, .int .i64 xp] 60) = w4 := ⟨_, rfl⟩
      obtain ⟨bx, hbx2⟩ : ∃ bx, bx = wr.heap.size := ⟨_, rfl⟩
      rw [hw4] at X4 HB4 HBB4 T4 ⊢
      rw [← hbx2] at X4 htx ⊢
      clear hw4 hbx2
      have x0 : w4.cell? ⟨bx, 0, none⟩ = some (.int .i64 xk) := (blk_cell X4.out 0).trans rfl
      have x1 : w4.cell? ⟨bx, 1, none⟩ = some (.int .i64 xb) := (blk_cell X4.out 1).trans rfl
      have x2 : w4.cell? ⟨bx, 2, none⟩ = some (.int .i64 xn) := (blk_cell X4.out 2).trans rfl
      have x3 : w4.cell? ⟨bx, 3, none⟩ = some (.int .i64 xp) := (blk_cell X4.out 3).trans rfl
      by_cases e1 : xk = kind
      · by_cases e2 : xn = nth
        · by_cases e3 : 3 ≤ kind
          · have HF9 := hid (HFD.out (by simp [e1, e2, e3]))
            subst e1
            subst e2
            have t0 : w4.cell? ⟨tb, 0, none⟩ = some (.int .i64 0) := (blk_cell T4.out 0).trans rfl
            have t1 : w4.cell? ⟨tb, 1, none⟩ = some (.int .i64 0) := (blk_cell T4.out 1).trans rfl
            have t2 : w4.cell? ⟨tb, 2, none⟩ = some (.int .i64 0) := (blk_cell T4.out 2).trans rfl
            have t3 : w4.cell? ⟨tb, 3, none⟩ = some (.int .i64 0) := (blk_cell T4.out 3).trans rfl
            have f0 := blk_free T4.out 0
            have f1 := blk_free T4.out 1
            have f2 := blk_free T4.out 2
            have f3 := blk_free T4.out 3
            have HSet := hid (set4 T4.out (.int .i64 xk) (.int .i64 xb) (.int .i64 xn) (.int .i64 xp))
            have HSb := hid (set4_below (B := w.heap.size) w4 tb (.int .i64 xk) (.int .i64 xb) (.int .i64 xn) (.int .i64 xp) (by have := HT.out; omega))
            clear HFD HNX hp63 hpI
            go_wp2_with fail
            obtain ⟨w7, hw7⟩ : ∃ w7, (((w4.setCell ⟨tb, 0, none⟩ (.int .i64 xk)).setCell ⟨tb, 1, none⟩ (.int .i64 xb)).setCell ⟨tb, 2, none⟩ (.int .i64 xn)).setCell ⟨tb, 3, none⟩ (.int .i64 xp) = w7 := ⟨_, rfl⟩
            rw [hw7] at HSet HSb ⊢
            have z0 : w7.cell? ⟨tb, 0, none⟩ = some (.int .i64 xk) := (blk_cell HSet.out 0).trans rfl
            have z1 : w7.cell? ⟨tb, 1, none⟩ = some (.int .i64 xb) := (blk_cell HSet.out 1).trans rfl
            have z2 : w7.cell? ⟨tb, 2, none⟩ = some (.int .i64 xn) := (blk_cell HSet.out 2).trans rfl
            have z3 : w7.cell? ⟨tb, 3, none⟩ = some (.int .i64 xp) := (blk_cell HSet.out 3).trans rfl
            refine bodyPost_ret (v := .tuple #[.agg #[.int .i64 xk, .int .i64 xb, .int .i64 xn, .int .i64 xp], .bool true]) (by simp [results, Try.results67, go_sem, z0, z1, z2, z3]) rfl ?_
            exact ⟨congrArg Ending.returned (congrArg hitV HF9.out).symm, HBB4.out.trans HSb.out⟩
          · by_cases e4 : xb = blk
            · have HF9 := hid (HFD.out (by simp [e1, e2, e4]))
              subst e1
              subst e2
              subst e4
              have t0 : w4.cell? ⟨tb, 0, none⟩ = some (.int .i64 0) := (blk_cell T4.out 0).trans rfl
              have t1 : w4.cell? ⟨tb, 1, none⟩ = some (.int .i64 0) := (blk_cell T4.out 1).trans rfl
              have t2 : w4.cell? ⟨tb, 2, none⟩ = some (.int .i64 0) := (blk_cell T4.out 2).trans rfl
              have t3 : w4.cell? ⟨tb, 3, none⟩ = some (.int .i64 0) := (blk_cell T4.out 3).trans rfl
              have f0 := blk_free T4.out 0
              have f1 := blk_free T4.out 1
              have f2 := blk_free T4.out 2
              have f3 := blk_free T4.out 3
              have HSet := hid (set4 T4.out (.int .i64 xk) (.int .i64 xb) (.int .i64 xn) (.int .i64 xp))
              have HSb := hid (set4_below (B := w.heap.size) w4 tb (.int .i64 xk) (.int .i64 xb) (.int .i64 xn) (.int .i64 xp) (by have := HT.out; omega))
              clear HFD HNX hp63 hpI
              go_wp2_with fail
              obtain ⟨w7, hw7⟩ : ∃ w7, (((w4.setCell ⟨tb, 0, none⟩ (.int .i64 xk)).setCell ⟨tb, 1, none⟩ (.int .i64 xb)).setCell ⟨tb, 2, none⟩ (.int .i64 xn)).setCell ⟨tb, 3, none⟩ (.int .i64 xp) = w7 := ⟨_, rfl⟩
              rw [hw7] at HSet HSb ⊢
              have z0 : w7.cell? ⟨tb, 0, none⟩ = some (.int .i64 xk) := (blk_cell HSet.out 0).trans rfl
              have z1 : w7.cell? ⟨tb, 1, none⟩ = some (.int .i64 xb) := (blk_cell HSet.out 1).trans rfl
              have z2 : w7.cell? ⟨tb, 2, none⟩ = some (.int .i64 xn) := (blk_cell HSet.out 2).trans rfl
              have z3 : w7.cell? ⟨tb, 3, none⟩ = some (.int .i64 xp) := (blk_cell HSet.out 3).trans rfl
              refine bodyPost_ret (v := .tuple #[.agg #[.int .i64 xk, .int .i64 xb, .int .i64 xn, .int .i64 xp], .bool true]) (by simp [results, Try.results67, go_sem, z0, z1, z2, z3]) rfl ?_
              exact ⟨congrArg Ending.returned (congrArg hitV HF9.out).symm, HBB4.out.trans HSb.out⟩
            · have HNN := hid (HNX.out (by simp [e3, e4]))
              have b1 : (xb == blk) = false := beq_eq_false_iff_ne.mpr e4
              have b2 : decide (xb = blk) = false := decide_eq_false e4
              subst e1
              subst e2
              clear e4 HFD HNX
              go_wp2_with fail
              go_roundg (len - (p + 1))
              case measure => omega
              case rel => exact ⟨p + 1, by omega, rfl, by go_num, HB4, HNN⟩
        · have HNN := hid (HNX.out (by simp [e2]))
          have b1 : (xn == nth) = false := beq_eq_false_iff_ne.mpr e2
          have b2 : decide (xn = nth) = false := decide_eq_false e2
          subst e1
          clear e2 HFD HNX
          go_wp2_with fail
          go_roundg (len - (p + 1))
          case measure => omega
          case rel => exact ⟨p + 1, by omega, rfl, by go_num, HB4, HNN⟩
      · have HNN := hid (HNX.out (by simp [e1]))
        have b1 : (xk == kind) = false := beq_eq_false_iff_ne.mpr e1
        have b2 : decide (xk = kind) = false := decide_eq_false e1
        clear e1 HFD HNX
        go_wp2_with fail
        go_roundg (len - (p + 1))
        case measure => omega
        case rel => exact ⟨p + 1, by omega, rfl, by go_num, HB4, HNN⟩
    · have hpe : len = p := by omega
      subst hpe
      have HNO := hid (show l.find? (fun f => decide (f.kind = kind) && (decide (f.nth = nth) && (decide (3 ≤ kind) || decide (f.blk = blk)))) = none by
        rw [List.find?_eq_none]
        intro f hf
        rw [HN.out f (by rw [HL.out, List.take_length]; exact hf)]
        simp)
      have t0 : wr.cell? ⟨tb, 0, none⟩ = some (.int .i64 0) := (blk_cell T1.out 0).trans rfl
      have t1 : wr.cell? ⟨tb, 1, none⟩ = some (.int .i64 0) := (blk_cell T1.out 1).trans rfl
      have t2 : wr.cell? ⟨tb, 2, none⟩ = some (.int .i64 0) := (blk_cell T1.out 2).trans rfl
      have t3 : wr.cell? ⟨tb, 3, none⟩ = some (.int .i64 0) := (blk_cell T1.out 3).trans rfl
      have f0 := blk_free T1.out 0
      have f1 := blk_free T1.out 1
      have f2 := blk_free T1.out 2
      have f3 := blk_free T1.out 3
      have HSet := hid (set4 T1.out (.int .i64 0) (.int .i64 0) (.int .i64 0) (.int .i64 0))
      have HSb := hid (set4_below (B := w.heap.size) wr tb (.int .i64 0) (.int .i64 0) (.int .i64 0) (.int .i64 0) (by have := HT.out; omega))
      go_wp2_with fail
      obtain ⟨w7, hw7⟩ : ∃ w7, (((wr.setCell ⟨tb, 0, none⟩ (.int .i64 0)).setCell ⟨tb, 1, none⟩ (.int .i64 0)).setCell ⟨tb, 2, none⟩ (.int .i64 0)).setCell ⟨tb, 3, none⟩ (.int .i64 0) = w7 := ⟨_, rfl⟩
      rw [hw7] at HSet HSb ⊢
      have z0 : w7.cell? ⟨tb, 0, none⟩ = some (.int .i64 0) := (blk_cell HSet.out 0).trans rfl
      have z1 : w7.cell? ⟨tb, 1, none⟩ = some (.int .i64 0) := (blk_cell HSet.out 1).trans rfl
      have z2 : w7.cell? ⟨tb, 2, none⟩ = some (.int .i64 0) := (blk_cell HSet.out 2).trans rfl
      have z3 : w7.cell? ⟨tb, 3, none⟩ = some (.int .i64 0) := (blk_cell HSet.out 3).trans rfl
      refine bodyPost_ret (v := .tuple #[.agg #[.int .i64 0, .int .i64 0, .int .i64 0, .int .i64 0], .bool false]) (by simp [results, Try.results67, go_sem, z0, z1, z2, z3]) rfl ?_
      exact ⟨congrArg Ending.returned (congrArg hitV HNO.out).symm, HBB.out.trans HSb.out⟩
end Go.Proofs.Ytkhejipcclpknaa
