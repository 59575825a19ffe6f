/- The walk of ViolHead. No statement is proved here. -/
import Derived.Test.YtgimpkbknaopcaaHdA
import Derived.Test.YtgimpkbknaopcaaPlB
import Derived.Deep.Light

set_option linter.unusedVariables false
set_option linter.unusedSimpArgs false
namespace Go.Proofs.Ytgimpkbknaopcaa
open Go.RowKit
open Go.Shelf Go.Lib
open Go.Sort hiding Below

theorem own_vin3 {w : World} {v : Value} {l : List V} (h : OwnV w v l) : ∃ a cap, v = .slice a l.length cap ∧ VIn w a l ∧ l.length ≤ cap ∧ (a = none → l = [] ∧ cap = 0) := by
  rcases h.2 with ⟨rfl, h0⟩ | ⟨g, c, cur, rfl, k0, hg, hle, rest⟩
  · have hz := List.eq_nil_of_length_eq_zero h0
    exact ⟨none, 0, by rw [h0], fun h => absurd hz h, by omega, fun _ => ⟨hz, rfl⟩⟩
  · obtain ⟨a', c', e, hv⟩ := own_vin h
    cases e
    exact ⟨_, _, rfl, hv, hle, fun h => by cases h⟩
def nextA (all : List Pt) (v : V) : List Pt := if validB v = true then all ++ [Pt.mk v ((all.length : Int) + 1)] else all
def nextR (lim : Nat) (all row : List Pt) (v : V) : List Pt := if validB v = true then putA lim row (Pt.mk v ((all.length : Int) + 1)) else row
def codeV (v : V) : Int := if validB v = true then 0 else 181
structure Hd (B : Nat) (w0 w : World) (s g N M : Nat) (hs hg : Value) (aS rS aG rG : List Pt) : Prop where
  os : On B w s N hs aS rS
  og : On B w g M hg aG rG
  ap : Apart s g hs hg
  bel : Below B w0 w
section
variable {B s g N M : Nat} {w0 w w' : World} {hs hg : Value} {aS rS aG rG : List Pt}
theorem Hd.symm (h : Hd B w0 w s g N M hs hg aS rS aG rG) : Hd B w0 w g s M N hg hs aG rG aS rS := ⟨h.og, h.os, h.ap.symm, h.bel⟩
theorem Hd.below (h : Hd B w0 w s g N M hs hg aS rS aG rG) (hB : B ≤ w.heap.size) (hb : Below w.heap.size w w') : Hd B w0 w' s g N M hs hg aS rS aG rG := ⟨h.os.below hb, h.og.below hb, h.ap, h.bel.trans (hb.mono hB)⟩
def PutSPost (B : Nat) (w0 : World) (s g N M : Nat) (hg : Value) (aS rS aG rG : List Pt) (v : V) (e : Ending) (w' : World) : Prop :=
  e = .returned (.int .i64 (codeV v)) ∧ ∃ hs', Hd B w0 w' s g N M hs' hg (nextA aS v) (nextR N aS rS v) aG rG
theorem put_s (h : Hd B w0 w s g N M hs hg aS rS aG rG) (hB0 : B ≤ w0.heap.size) (hN : N ≤ 10000) (hl : aS.length < 9223372036854775807) (v : V) :
    Calls Try.prog 11 #[.pointer (some ⟨s, 0, none⟩), v.agg] w (PutSPost B w0 s g N M hg aS rS aG rG v) := by
  have hB : B ≤ w.heap.size := Nat.le_trans hB0 h.bel.size
  refine (put_any (Rest w s hs) s (N : Int) (aS.length : Int) hs rS v w h.os.tpk (by omega) (by omega) (by have := h.os.len; omega) (by omega) (by omega) (rest_fit _ _ _)).mono ?_
  rintro e w' (⟨hval, rfl, hb⟩ | ⟨hval, rfl, hs', hT, hb⟩)
  · refine ⟨by simp [codeV, hval], hs, ?_⟩
    unfold nextA nextR
    rw [if_neg (by rw [hval]; simp), if_neg (by rw [hval]; simp)]
    exact h.below hB hb
  · refine ⟨by simp [codeV, hval], hs', ?_⟩
    unfold nextA nextR
    rw [if_pos hval, if_pos hval]
    exact ⟨h.os.put hT hB, h.os.other h.og h.ap hb, h.ap.put h.og hT, h.bel.trans (h.os.bel hB hb)⟩
def PutGPost (B : Nat) (w0 : World) (s g N M : Nat) (hs : Value) (aS rS aG rG : List Pt) (v : V) (e : Ending) (w' : World) : Prop :=
  e = .returned (.int .i64 (codeV v)) ∧ ∃ hg', Hd B w0 w' s g N M hs hg' aS rS (nextA aG v) (nextR M aG rG v)
theorem put_g (h : Hd B w0 w s g N M hs hg aS rS aG rG) (hB0 : B ≤ w0.heap.size) (hM : M ≤ 10000) (hl : aG.length < 9223372036854775807) (v : V) :
    Calls Try.prog 11 #[.pointer (some ⟨g, 0, none⟩), v.agg] w (PutGPost B w0 s g N M hs aS rS aG rG v) :=
  (put_s h.symm hB0 hM hl v).mono fun e w' ⟨h1, hg', h2⟩ => ⟨h1, hg', h2.symm⟩
end
theorem nextA_map {all : List Pt} {v : V} {l : List V} (h : all.map (·.v) = l.filter validB) : (nextA all v).map (·.v) = (l ++ [v]).filter validB := by
  unfold nextA
  rw [List.filter_append, ← h]
  by_cases hv : validB v = true
  · rw [if_pos hv]; simp [hv]
  · rw [if_neg hv]; simp [hv]
theorem codeV_beq (v : V) : (codeV v == 0) = validB v := by
  unfold codeV
  cases validB v <;> rfl
theorem nextA_len (all : List Pt) (v : V) : (nextA all v).length = if validB v = true then all.length + 1 else all.length := by
  unfold nextA
  split <;> simp
/-- No tie of the right ones at the places below i. -/
def NoTie (l : List V) (i : Nat) : Prop := ∀ j, j < i → ∀ k, k < j → ∀ x y, l[k]? = some x → l[j]? = some y → ¬ (eqV x y ∧ validB y = true)
def NoTie1 (l : List V) (i k : Nat) : Prop := ∀ j, j < k → ∀ x y, l[j]? = some x → l[i]? = some y → ¬ (eqV x y ∧ validB y = true)
theorem NoTie.next {l : List V} {i : Nat} (h : NoTie l i) (h1 : NoTie1 l i i) : NoTie l (i + 1) := by
  intro j hj k hk x y hx hy
  by_cases he : j = i
  · subst he
    exact h1 k hk x y hx hy
  · exact h j (by omega) k hk x y hx hy
theorem NoTie.pw {l : List V} (h : NoTie l l.length) : (l.filter validB).Pairwise (fun x y => ¬ eqV x y) :=
  filter_pw fun i hi k hk => h i hi k hk _ _ (List.getElem?_eq_getElem _) (List.getElem?_eq_getElem _)

set_option maxHeartbeats 32000000 in
set_option maxRecDepth 100000 in
theorem head_walk (a : Option Addr) (cap : Nat) (l : List V) (n m : Int) (w : World) (hin : VIn w a l) (hlen : l.length ≤ 1172812402961) :
    Calls Try.prog 4 #[.slice a l.length cap, .int .i64 n, .int .i64 m] w fun e w' => e = .returned (.bool true) ∧ Below w.heap.size w w' := by
  have Hin := hid hin
  clear hin
  obtain ⟨len, hlen0⟩ : ∃ len, len = l.length := ⟨_, rfl⟩
  rw [← hlen0] at hlen ⊢
  have HL := hid hlen0
  clear hlen0
  by_cases hq0 : n < 0
  · go_enter Try.func4, Try.ntmps4
    go_wp2_with fail
    refine (anchor_any _).mono ?_
    rintro e w1 ⟨rfl, hb1⟩
    go_wp2_with fail
    all_goals go_ret
    all_goals exact ⟨rfl, hb1⟩
  by_cases hq1 : m < n
  · go_enter Try.func4, Try.ntmps4
    go_wp2_with fail
    refine (anchor_any _).mono ?_
    rintro e w1 ⟨rfl, hb1⟩
    go_wp2_with fail
    all_goals go_ret
    all_goals exact ⟨rfl, hb1⟩
  by_cases hq2 : 10000 < m
  · go_enter Try.func4, Try.ntmps4
    go_wp2_with fail
    refine (anchor_any _).mono ?_
    rintro e w1 ⟨rfl, hb1⟩
    go_wp2_with fail
    all_goals go_ret
    all_goals exact ⟨rfl, hb1⟩
  obtain ⟨N, rfl⟩ := Int.eq_ofNat_of_zero_le (show 0 ≤ n by omega)
  obtain ⟨M, rfl⟩ := Int.eq_ofNat_of_zero_le (show 0 ≤ m by omega)
  have hNM : (N : Int) ≤ (M : Int) := by omega
  have hM : (M : Int) ≤ 10000 := by omega
  clear hq0 hq1 hq2
  go_enter Try.func4, Try.ntmps4
  go_wp2_with fail
  refine (anchor_any _).mono ?_
  rintro e w1 ⟨rfl, hb1⟩
  go_wp2_with fail
  refine (new_good (N : Int) _ (by omega) (by omega)).mono ?_
  rintro e w2 ⟨s, rfl, hS, hb2⟩
  have hbe2 := hb1.trans (hb2.mono hb1.size)
  have S2 := on_new hS hb1.size
  have HS2 := hid S2
  have HB2 := hid hbe2
  clear hS hb1 hb2 S2 hbe2
  go_wp2_with fail
  refine (new_good (M : Int) _ (by omega) (by omega)).mono ?_
  rintro e w3 ⟨g, rfl, hG, hb3⟩
  have H3 : Hid (Hd w.heap.size w w3 s g N M (.slice none 0 0) (.slice none 0 0) [] [] [] []) := hid
    ⟨HS2.out.below hb3, on_new hG HB2.out.size, ⟨by have h1 := blk_lt HS2.out.tp.ht; have h2 := hG.bt; omega, fun k hk => by simp [Value.ownBlock] at hk, fun k hk => by simp [Value.ownBlock] at hk⟩, HB2.out.trans (hb3.mono HB2.out.size)⟩
  clear hG hb3 HS2 HB2
  go_wp2_with fail
  go_loopg [59] len (fun gh s59 wr => ∃ i : Nat, i ≤ len ∧ gh = len - i ∧ s59 = .int .i64 i ∧ Hid (Below w3.heap.size w3 wr) ∧ Hid (NoTie l i))
  case atStart => exact ⟨0, Nat.zero_le _, by omega, rfl, hid (Below.refl _ _), hid (fun j hj => by omega)⟩
  case round =>
    obtain ⟨i, hi, rfl, rfl, hbel, hnt⟩ := hrel
    by_cases hlt : i < len
    · have hne : l ≠ [] := by
        intro h
        have := HL.out
        rw [h] at this
        simp at this
        omega
      have hil : i < l.length := by have := HL.out; omega
      have hw3 := H3.out.bel.size
      obtain ⟨b, o, rfl, hbl, hc⟩ := (Hin.out.below ((H3.out.bel.trans (hbel.out.mono hw3)))) hne
      have hx := hc i hil
      have HV : Hid (l[i]? = some l[i]) := hid (List.getElem?_eq_getElem _)
      clear hc hne
      generalize l[i] = v at *
      have hi64 : (i : Int) < (len : Int) := by omega
      have hal := (Below.refl _ wr).alloc (Nat.le_refl _) (.cells #[.int .i64 v.kind, .int .i64 v.time, .int .i64 v.txn, .int .i64 v.op, .int .i64 v.wit, .string v.key, .bool v.want, .string v.exp, .bool v.got, .string v.obs, .int .i64 v.frm, .int .i64 v.to] 30)
      have hnew : Hid ((wr.alloc (.cells #[.int .i64 v.kind, .int .i64 v.time, .int .i64 v.txn, .int .i64 v.op, .int .i64 v.wit, .string v.key, .bool v.want, .string v.exp, .bool v.got, .string v.obs, .int .i64 v.frm, .int .i64 v.to] 30)).heap[wr.heap.size]? = some (.cells #[.int .i64 v.kind, .int .i64 v.time, .int .i64 v.txn, .int .i64 v.op, .int .i64 v.wit, .string v.key, .bool v.want, .string v.exp, .bool v.got, .string v.obs, .int .i64 v.frm, .int .i64 v.to] 30 (0, 0))) := hid (heap_alloc_new wr _)
      have hba := hid (hbel.out.trans (hal.mono hbel.out.size))
      have x0 : wr.cell? ⟨b, o + i * 12, none⟩ = some (.int .i64 v.kind) := hx 0 (by omega)
      have x1 : wr.cell? ⟨b, o + i * 12 + 1, none⟩ = some (.int .i64 v.time) := hx 1 (by omega)
      have x2 : wr.cell? ⟨b, o + i * 12 + 2, none⟩ = some (.int .i64 v.txn) := hx 2 (by omega)
      have x3 : wr.cell? ⟨b, o + i * 12 + 3, none⟩ = some (.int .i64 v.op) := hx 3 (by omega)
      have x4 : wr.cell? ⟨b, o + i * 12 + 4, none⟩ = some (.int .i64 v.wit) := hx 4 (by omega)
      have x5 : wr.cell? ⟨b, o + i * 12 + 5, none⟩ = some (.string v.key) := hx 5 (by omega)
      have x6 : wr.cell? ⟨b, o + i * 12 + 6, none⟩ = some (.bool v.want) := hx 6 (by omega)
      have x7 : wr.cell? ⟨b, o + i * 12 + 7, none⟩ = some (.string v.exp) := hx 7 (by omega)
      have x8 : wr.cell? ⟨b, o + i * 12 + 8, none⟩ = some (.bool v.got) := hx 8 (by omega)
      have x9 : wr.cell? ⟨b, o + i * 12 + 9, none⟩ = some (.string v.obs) := hx 9 (by omega)
      have x10 : wr.cell? ⟨b, o + i * 12 + 10, none⟩ = some (.int .i64 v.frm) := hx 10 (by omega)
      have x11 : wr.cell? ⟨b, o + i * 12 + 11, none⟩ = some (.int .i64 v.to) := hx 11 (by omega)
      clear hx hal
      go_upto_region 13 with fail
      clear x0 x1 x2 x3 x4 x5 x6 x7 x8 x9 x10 x11
      generalize hwa : wr.alloc (.cells #[.int .i64 v.kind, .int .i64 v.time, .int .i64 v.txn, .int .i64 v.op, .int .i64 v.wit, .string v.key, .bool v.want, .string v.exp, .bool v.got, .string v.obs, .int .i64 v.frm, .int .i64 v.to] 30) = wa at *
      generalize wr.heap.size = bo at *
      clear hwa hbel
      go_wp2_with fail
      go_loopg [14] i (fun gh2 s14 wr => ∃ k : Nat, k ≤ i ∧ gh2 = i - k ∧ s14 = .int .i64 k ∧ Hid (Below wa.heap.size wa wr) ∧ Hid (NoTie1 l i k))
      case atStart => exact ⟨0, Nat.zero_le _, by omega, rfl, hid (Below.refl _ _), hid (fun j hj => by omega)⟩
      case round =>
        obtain ⟨k, hk, rfl, rfl, hbq, hn1⟩ := hrel
        have hbw := hid (hba.out.trans (hbq.out.mono hba.out.size))
        by_cases hkl : k < i
        · have hki : (k : Int) < (i : Int) := by omega
          have hkl2 : (k : Int) < (len : Int) := by omega
          have hkll : k < l.length := by have := HL.out; omega
          have hne : l ≠ [] := by
            intro h
            rw [h] at hkll
            simp at hkll
          obtain ⟨b', o', hbo, hbl', hc⟩ := (Hin.out.below ((H3.out.bel.trans (hbw.out.mono H3.out.bel.size)))) hne
          cases hbo
          have hx := hc k hkll
          have HX : Hid (l[k]? = some l[k]) := hid (List.getElem?_eq_getElem _)
          clear hc hne
          generalize l[k] = x at *
          have nw := (hbq.out.block bo (blk_lt hnew.out)).trans hnew.out
          have nwl := blk_lt nw
          have x0 := fun n os => cell_grown (a := ⟨b, o + k * 12, none⟩) hbl' (hx 0 (by omega) : wr.cell? _ = some (.int .i64 x.kind)) n os
          have x1 := fun n os => cell_grown (a := ⟨b, o + k * 12 + 1, none⟩) hbl' (hx 1 (by omega) : wr.cell? _ = some (.int .i64 x.time)) n os
          have x2 := fun n os => cell_grown (a := ⟨b, o + k * 12 + 2, none⟩) hbl' (hx 2 (by omega) : wr.cell? _ = some (.int .i64 x.txn)) n os
          have x3 := fun n os => cell_grown (a := ⟨b, o + k * 12 + 3, none⟩) hbl' (hx 3 (by omega) : wr.cell? _ = some (.int .i64 x.op)) n os
          have x4 := fun n os => cell_grown (a := ⟨b, o + k * 12 + 4, none⟩) hbl' (hx 4 (by omega) : wr.cell? _ = some (.int .i64 x.wit)) n os
          have x5 := fun n os => cell_grown (a := ⟨b, o + k * 12 + 5, none⟩) hbl' (hx 5 (by omega) : wr.cell? _ = some (.string x.key)) n os
          have x6 := fun n os => cell_grown (a := ⟨b, o + k * 12 + 6, none⟩) hbl' (hx 6 (by omega) : wr.cell? _ = some (.bool x.want)) n os
          have x7 := fun n os => cell_grown (a := ⟨b, o + k * 12 + 7, none⟩) hbl' (hx 7 (by omega) : wr.cell? _ = some (.string x.exp)) n os
          have x8 := fun n os => cell_grown (a := ⟨b, o + k * 12 + 8, none⟩) hbl' (hx 8 (by omega) : wr.cell? _ = some (.bool x.got)) n os
          have x9 := fun n os => cell_grown (a := ⟨b, o + k * 12 + 9, none⟩) hbl' (hx 9 (by omega) : wr.cell? _ = some (.string x.obs)) n os
          have x10 := fun n os => cell_grown (a := ⟨b, o + k * 12 + 10, none⟩) hbl' (hx 10 (by omega) : wr.cell? _ = some (.int .i64 x.frm)) n os
          have x11 := fun n os => cell_grown (a := ⟨b, o + k * 12 + 11, none⟩) hbl' (hx 11 (by omega) : wr.cell? _ = some (.int .i64 x.to)) n os
          have y0 := fun n os => cell_grown (a := ⟨bo, 0, none⟩) nwl ((blk_cell nw 0).trans rfl : wr.cell? _ = some (.int .i64 v.kind)) n os
          have y1 := fun n os => cell_grown (a := ⟨bo, 1, none⟩) nwl ((blk_cell nw 1).trans rfl : wr.cell? _ = some (.int .i64 v.time)) n os
          have y2 := fun n os => cell_grown (a := ⟨bo, 2, none⟩) nwl ((blk_cell nw 2).trans rfl : wr.cell? _ = some (.int .i64 v.txn)) n os
          have y3 := fun n os => cell_grown (a := ⟨bo, 3, none⟩) nwl ((blk_cell nw 3).trans rfl : wr.cell? _ = some (.int .i64 v.op)) n os
          have y4 := fun n os => cell_grown (a := ⟨bo, 4, none⟩) nwl ((blk_cell nw 4).trans rfl : wr.cell? _ = some (.int .i64 v.wit)) n os
          have y5 := fun n os => cell_grown (a := ⟨bo, 5, none⟩) nwl ((blk_cell nw 5).trans rfl : wr.cell? _ = some (.string v.key)) n os
          have y6 := fun n os => cell_grown (a := ⟨bo, 6, none⟩) nwl ((blk_cell nw 6).trans rfl : wr.cell? _ = some (.bool v.want)) n os
          have y7 := fun n os => cell_grown (a := ⟨bo, 7, none⟩) nwl ((blk_cell nw 7).trans rfl : wr.cell? _ = some (.string v.exp)) n os
          have y8 := fun n os => cell_grown (a := ⟨bo, 8, none⟩) nwl ((blk_cell nw 8).trans rfl : wr.cell? _ = some (.bool v.got)) n os
          have y9 := fun n os => cell_grown (a := ⟨bo, 9, none⟩) nwl ((blk_cell nw 9).trans rfl : wr.cell? _ = some (.string v.obs)) n os
          have y10 := fun n os => cell_grown (a := ⟨bo, 10, none⟩) nwl ((blk_cell nw 10).trans rfl : wr.cell? _ = some (.int .i64 v.frm)) n os
          have y11 := fun n os => cell_grown (a := ⟨bo, 11, none⟩) nwl ((blk_cell nw 11).trans rfl : wr.cell? _ = some (.int .i64 v.to)) n os
          clear hx nw nwl
          have mixed := mixedT
          have HC : Hid (∀ W : World, Calls Try.prog 17 #[x.agg, v.agg] W fun e w' => e = .returned (.int .i64 (cmpV x v)) ∧ Laid W w') := hid (fun W => compare_any x v W)
          have HR : Hid (∀ W : World, Calls Try.prog 12 #[v.agg] W fun e w' => e = .returned (.bool (validB v)) ∧ Laid W w') := hid (fun W => rvalid_laid v W)
          have HZ : Hid (cmpV x v = 0 ↔ eqV x v) := hid cmpV_zero
          generalize cmpV x v = c at *
          generalize hvb : validB v = vb at *
          have HVB := hid hvb
          clear hvb
          have hk63 : (k : Int) + 1 ≤ 9223372036854775807 := by omega
          by_cases hc0 : c = 0
          · have b0 : (c == 0) = true := by rw [hc0]; rfl
            have HE := hid (HZ.out.1 hc0)
            clear hc0
            cases vb with
            | true =>
              go_upto_region 16 with fail
              go_quiet_grown (first | (go_at_call 17; refine Calls.grown_of (HC.out _)) | (go_at_call 12; refine Calls.grown_of (HR.out _)))
              have hL : Laid wr (grow (wr.drewN nq) osq) := ⟨nq, osq, rfl⟩
              clear x0 x1 x2 x3 x4 x5 x6 x7 x8 x9 x10 x11 y0 y1 y2 y3 y4 y5 y6 y7 y8 y9 y10 y11
              have hbf := hbw.out.trans (hL.below.mono hbw.out.size)
              clear hL
              generalize grow (wr.drewN nq) osq = wz at *
              go_wp2_with fail
              go_ret
              exact ⟨rfl, H3.out.bel.trans (hbf.mono H3.out.bel.size)⟩
            | false =>
              go_upto_region 16 with fail
              go_quiet_grown (first | (go_at_call 17; refine Calls.grown_of (HC.out _)) | (go_at_call 12; refine Calls.grown_of (HR.out _)))
              have hL : Laid wr (grow (wr.drewN nq) osq) := ⟨nq, osq, rfl⟩
              clear x0 x1 x2 x3 x4 x5 x6 x7 x8 x9 x10 x11 y0 y1 y2 y3 y4 y5 y6 y7 y8 y9 y10 y11
              have hbf := hid (hbq.out.trans (hL.below.mono hbq.out.size))
              have hnn : Hid (NoTie1 l i (k + 1)) := hid (by
                intro j hj x' y' hx' hy'
                by_cases he : j = k
                · subst he
                  rw [HV.out] at hy'
                  cases hy'
                  rw [HVB.out]
                  simp
                · exact hn1.out j (by omega) x' y' hx' hy')
              clear hL
              generalize grow (wr.drewN nq) osq = wz at *
              go_wp2_with fail
              go_roundg (i - (k + 1))
              case measure => omega
              case rel => exact ⟨k + 1, by omega, rfl, by go_num, hbf, hnn⟩
          · have b0 : (c == 0) = false := beq_eq_false_iff_ne.mpr hc0
            have HE := hid (fun e => hc0 (HZ.out.2 e))
            clear hc0
            go_upto_region 16 with fail
            go_quiet_grown (first | (go_at_call 17; refine Calls.grown_of (HC.out _)) | (go_at_call 12; refine Calls.grown_of (HR.out _)))
            have hL : Laid wr (grow (wr.drewN nq) osq) := ⟨nq, osq, rfl⟩
            clear x0 x1 x2 x3 x4 x5 x6 x7 x8 x9 x10 x11 y0 y1 y2 y3 y4 y5 y6 y7 y8 y9 y10 y11
            have hbf := hid (hbq.out.trans (hL.below.mono hbq.out.size))
            have hnn : Hid (NoTie1 l i (k + 1)) := hid (by
              intro j hj x' y' hx' hy' hh
              by_cases he : j = k
              · subst he
                rw [HV.out] at hy'
                rw [HX.out] at hx'
                cases hy'
                cases hx'
                exact HE.out hh.1
              · exact hn1.out j (by omega) x' y' hx' hy' hh)
            clear hL
            generalize grow (wr.drewN nq) osq = wz at *
            go_wp2_with fail
            go_roundg (i - (k + 1))
            case measure => omega
            case rel => exact ⟨k + 1, by omega, rfl, by go_num, hbf, hnn⟩
        · have hkN : k = i := by omega
          subst hkN
          have hnn := hid (hnt.out.next hn1.out)
          have hk63 : (k : Int) + 1 ≤ 9223372036854775807 := by omega
          go_wp2_with fail
          go_roundg (len - (k + 1))
          case measure => omega
          case rel => exact ⟨k + 1, by omega, rfl, by go_num, hbw, hnn⟩
    · have hiN : i = len := by omega
      subst hiN
      have hpw := hid ((show NoTie l l.length from HL.out ▸ hnt.out).pw)
      have H4 := hid (H3.out.below H3.out.bel.size hbel.out)
      clear hnt hbel H3
      go_wp2_with fail
      go_loopg [11, 83] i (fun gh s11 s83 wr => ∃ (k : Nat) (hs hg : Value) (aS rS aG rG : List Pt), k ≤ i ∧ gh = i - k ∧ s11 = .int .i64 aS.length ∧ s83 = .int .i64 k ∧ Hid (Hd w.heap.size w wr s g N M hs hg aS rS aG rG) ∧ aS.length ≤ k ∧ aG.length ≤ k ∧
        Hid (aS.map (·.v) = (l.take k).filter validB) ∧ Hid (aG.map (·.v) = (l.reverse.take k).filter validB))
      case atStart => exact ⟨0, _, _, [], [], [], [], Nat.zero_le _, by omega, rfl, rfl, H4, Nat.le_refl _, Nat.le_refl _, hid (by simp), hid (by simp)⟩
      case round =>
        clear H4
        obtain ⟨k, hs, hg, aS, rS, aG, rG, hk, rfl, rfl, rfl, H, hlS, hlG, hmS, hmG⟩ := hrel
        by_cases hkl : k < i
        · obtain ⟨j, rfl⟩ : ∃ j, i = k + 1 + j := ⟨i - (k + 1), by omega⟩
          have hkll : k < l.length := by have := HL.out; omega
          have hjll : j < l.length := by have := HL.out; omega
          have hne : l ≠ [] := by
            intro h
            rw [h] at hkll
            simp at hkll
          obtain ⟨b, o, rfl, hbl, hc⟩ := Hin.out hne
          have hx := hc k hkll
          have hy := hc j hjll
          have e1 : l.take (k + 1) = l.take k ++ [l[k]] := List.take_succ_eq_append_getElem hkll
          have e2 : l.reverse.take (k + 1) = l.reverse.take k ++ [l[j]] := by
            rw [List.take_succ_eq_append_getElem (by simpa using hkll)]
            congr 2
            rw [List.getElem_reverse]
            congr 1
            have := HL.out
            omega
          have m1 := hid (nextA_map (v := l[k]) hmS.out)
          have m2 := hid (nextA_map (v := l[j]) hmG.out)
          rw [← e1] at m1
          rw [← e2] at m2
          have HXK : Hid (∀ W : World, Below w.heap.size w W → ∀ c, c < 12 → W.cell? ⟨b, o + k * 12 + c, none⟩ = (l[k]).cs[c]?) := hid (fun W hb c hcc => (hb.cell (p := ⟨b, o + k * 12 + c, none⟩) hbl).trans (hx c hcc))
          have HYK : Hid (∀ W : World, Below w.heap.size w W → ∀ c, c < 12 → W.cell? ⟨b, o + j * 12 + c, none⟩ = (l[j]).cs[c]?) := hid (fun W hb c hcc => (hb.cell (p := ⟨b, o + j * 12 + c, none⟩) hbl).trans (hy c hcc))
          clear hc hne e1 e2 hx hy
          generalize l[k] = x at *
          generalize l[j] = v at *
          have hB0 : w.heap.size ≤ w.heap.size := Nat.le_refl _
          have hki : (k : Int) < ((k + 1 + j : Nat) : Int) := by omega
          have hji : (j : Int) < ((k + 1 + j : Nat) : Int) := by omega
          have hks : ((k + 1 + j : Nat) : Int) - 1 - (k : Int) = (j : Int) := by omega
          have x0 : wr.cell? ⟨b, o + k * 12, none⟩ = some (.int .i64 x.kind) := HXK.out wr H.out.bel 0 (by omega)
          have x1 : wr.cell? ⟨b, o + k * 12 + 1, none⟩ = some (.int .i64 x.time) := HXK.out wr H.out.bel 1 (by omega)
          have x2 : wr.cell? ⟨b, o + k * 12 + 2, none⟩ = some (.int .i64 x.txn) := HXK.out wr H.out.bel 2 (by omega)
          have x3 : wr.cell? ⟨b, o + k * 12 + 3, none⟩ = some (.int .i64 x.op) := HXK.out wr H.out.bel 3 (by omega)
          have x4 : wr.cell? ⟨b, o + k * 12 + 4, none⟩ = some (.int .i64 x.wit) := HXK.out wr H.out.bel 4 (by omega)
          have x5 : wr.cell? ⟨b, o + k * 12 + 5, none⟩ = some (.string x.key) := HXK.out wr H.out.bel 5 (by omega)
          have x6 : wr.cell? ⟨b, o + k * 12 + 6, none⟩ = some (.bool x.want) := HXK.out wr H.out.bel 6 (by omega)
          have x7 : wr.cell? ⟨b, o + k * 12 + 7, none⟩ = some (.string x.exp) := HXK.out wr H.out.bel 7 (by omega)
          have x8 : wr.cell? ⟨b, o + k * 12 + 8, none⟩ = some (.bool x.got) := HXK.out wr H.out.bel 8 (by omega)
          have x9 : wr.cell? ⟨b, o + k * 12 + 9, none⟩ = some (.string x.obs) := HXK.out wr H.out.bel 9 (by omega)
          have x10 : wr.cell? ⟨b, o + k * 12 + 10, none⟩ = some (.int .i64 x.frm) := HXK.out wr H.out.bel 10 (by omega)
          have x11 : wr.cell? ⟨b, o + k * 12 + 11, none⟩ = some (.int .i64 x.to) := HXK.out wr H.out.bel 11 (by omega)
          have y0 : wr.cell? ⟨b, o + j * 12, none⟩ = some (.int .i64 v.kind) := HYK.out wr H.out.bel 0 (by omega)
          have y1 : wr.cell? ⟨b, o + j * 12 + 1, none⟩ = some (.int .i64 v.time) := HYK.out wr H.out.bel 1 (by omega)
          have y2 : wr.cell? ⟨b, o + j * 12 + 2, none⟩ = some (.int .i64 v.txn) := HYK.out wr H.out.bel 2 (by omega)
          have y3 : wr.cell? ⟨b, o + j * 12 + 3, none⟩ = some (.int .i64 v.op) := HYK.out wr H.out.bel 3 (by omega)
          have y4 : wr.cell? ⟨b, o + j * 12 + 4, none⟩ = some (.int .i64 v.wit) := HYK.out wr H.out.bel 4 (by omega)
          have y5 : wr.cell? ⟨b, o + j * 12 + 5, none⟩ = some (.string v.key) := HYK.out wr H.out.bel 5 (by omega)
          have y6 : wr.cell? ⟨b, o + j * 12 + 6, none⟩ = some (.bool v.want) := HYK.out wr H.out.bel 6 (by omega)
          have y7 : wr.cell? ⟨b, o + j * 12 + 7, none⟩ = some (.string v.exp) := HYK.out wr H.out.bel 7 (by omega)
          have y8 : wr.cell? ⟨b, o + j * 12 + 8, none⟩ = some (.bool v.got) := HYK.out wr H.out.bel 8 (by omega)
          have y9 : wr.cell? ⟨b, o + j * 12 + 9, none⟩ = some (.string v.obs) := HYK.out wr H.out.bel 9 (by omega)
          have y10 : wr.cell? ⟨b, o + j * 12 + 10, none⟩ = some (.int .i64 v.frm) := HYK.out wr H.out.bel 10 (by omega)
          have y11 : wr.cell? ⟨b, o + j * 12 + 11, none⟩ = some (.int .i64 v.to) := HYK.out wr H.out.bel 11 (by omega)
          have hBw : w.heap.size ≤ wr.heap.size := H.out.bel.size
          have hwj : IntKind.i64.wrap (IntKind.i64.wrap ((k : Int) + 1 + (j : Int) - 1) - (k : Int)) = (j : Int) := by rw [IntKind.wrap_i64, IntKind.wrap_i64]; omega
          have hji2 : (j : Int) < (k : Int) + 1 + (j : Int) := by omega
          have hji3 : j < k + 1 + j := by omega
          have hNn : N ≤ 10000 := by omega
          have hMn : M ≤ 10000 := by omega
          have hlS2 : aS.length < 9223372036854775807 := by omega
          have hlG2 : aG.length < 9223372036854775807 := by omega
          go_upto_region 22 with fail
          go_region_with (first | (go_at_call_of 11 (Value.pointer (some ⟨s, 0, none⟩)); refine (put_s (H.out.below hBw (Below.refl _ _).drew) hB0 hNn hlS2 x).mono ?_; rintro e w5 ⟨rfl, hs5, H5⟩; have HH5 := hid H5; clear H5; have z0 : w5.cell? ⟨b, o + j * 12, none⟩ = some (.int .i64 v.kind) := HYK.out w5 HH5.out.bel 0 (by omega); have z1 : w5.cell? ⟨b, o + j * 12 + 1, none⟩ = some (.int .i64 v.time) := HYK.out w5 HH5.out.bel 1 (by omega); have z2 : w5.cell? ⟨b, o + j * 12 + 2, none⟩ = some (.int .i64 v.txn) := HYK.out w5 HH5.out.bel 2 (by omega); have z3 : w5.cell? ⟨b, o + j * 12 + 3, none⟩ = some (.int .i64 v.op) := HYK.out w5 HH5.out.bel 3 (by omega); have z4 : w5.cell? ⟨b, o + j * 12 + 4, none⟩ = some (.int .i64 v.wit) := HYK.out w5 HH5.out.bel 4 (by omega); have z5 : w5.cell? ⟨b, o + j * 12 + 5, none⟩ = some (.string v.key) := HYK.out w5 HH5.out.bel 5 (by omega); have z6 : w5.cell? ⟨b, o + j * 12 + 6, none⟩ = some (.bool v.want) := HYK.out w5 HH5.out.bel 6 (by omega); have z7 : w5.cell? ⟨b, o + j * 12 + 7, none⟩ = some (.string v.exp) := HYK.out w5 HH5.out.bel 7 (by omega); have z8 : w5.cell? ⟨b, o + j * 12 + 8, none⟩ = some (.bool v.got) := HYK.out w5 HH5.out.bel 8 (by omega); have z9 : w5.cell? ⟨b, o + j * 12 + 9, none⟩ = some (.string v.obs) := HYK.out w5 HH5.out.bel 9 (by omega); have z10 : w5.cell? ⟨b, o + j * 12 + 10, none⟩ = some (.int .i64 v.frm) := HYK.out w5 HH5.out.bel 10 (by omega); have z11 : w5.cell? ⟨b, o + j * 12 + 11, none⟩ = some (.int .i64 v.to) := HYK.out w5 HH5.out.bel 11 (by omega)) | (go_at_call_of 11 (Value.pointer (some ⟨g, 0, none⟩)); refine (put_g HH5.out hB0 hMn hlG2 v).mono ?_; rintro e w6 ⟨rfl, hg6, H6⟩; have HH6 := hid H6; clear H6))
          all_goals
            clear x0 x1 x2 x3 x4 x5 x6 x7 x8 x9 x10 x11 y0 y1 y2 y3 y4 y5 y6 y7 y8 y9 y10 y11
            try clear z0 z1 z2 z3 z4 z5 z6 z7 z8 z9 z10 z11
            clear HH5
            have hcx := codeV_beq x
            have hlx := nextA_len aS x
            have R1 := rvalid_any x w6
            have R2 := fun W => rvalid_any v W
            have hcv := codeV_beq v
            generalize codeV v = cv at *
            generalize codeV x = cx at *
            generalize hbv : validB v = bv at *
            have hk63 : (k : Int) + 1 ≤ 9223372036854775807 := by omega
            have hB6 := HH6.out.bel.size
            have H6b := hid HH6.out.bel
            cases hbx : validB x with
            | true =>
              rw [hbx] at hcx hlx R1
              have HLX := hid hlx
              clear hlx
              have q0 : w6.cell? ⟨b, o + k * 12, none⟩ = some (.int .i64 x.kind) := HXK.out w6 H6b.out 0 (by omega)
              have q1 : w6.cell? ⟨b, o + k * 12 + 1, none⟩ = some (.int .i64 x.time) := HXK.out w6 H6b.out 1 (by omega)
              have q2 : w6.cell? ⟨b, o + k * 12 + 2, none⟩ = some (.int .i64 x.txn) := HXK.out w6 H6b.out 2 (by omega)
              have q3 : w6.cell? ⟨b, o + k * 12 + 3, none⟩ = some (.int .i64 x.op) := HXK.out w6 H6b.out 3 (by omega)
              have q4 : w6.cell? ⟨b, o + k * 12 + 4, none⟩ = some (.int .i64 x.wit) := HXK.out w6 H6b.out 4 (by omega)
              have q5 : w6.cell? ⟨b, o + k * 12 + 5, none⟩ = some (.string x.key) := HXK.out w6 H6b.out 5 (by omega)
              have q6 : w6.cell? ⟨b, o + k * 12 + 6, none⟩ = some (.bool x.want) := HXK.out w6 H6b.out 6 (by omega)
              have q7 : w6.cell? ⟨b, o + k * 12 + 7, none⟩ = some (.string x.exp) := HXK.out w6 H6b.out 7 (by omega)
              have q8 : w6.cell? ⟨b, o + k * 12 + 8, none⟩ = some (.bool x.got) := HXK.out w6 H6b.out 8 (by omega)
              have q9 : w6.cell? ⟨b, o + k * 12 + 9, none⟩ = some (.string x.obs) := HXK.out w6 H6b.out 9 (by omega)
              have q10 : w6.cell? ⟨b, o + k * 12 + 10, none⟩ = some (.int .i64 x.frm) := HXK.out w6 H6b.out 10 (by omega)
              have q11 : w6.cell? ⟨b, o + k * 12 + 11, none⟩ = some (.int .i64 x.to) := HXK.out w6 H6b.out 11 (by omega)
              go_wp2_with fail
              refine R1.mono ?_
              rintro e w7 ⟨rfl, hb7⟩
              have H7b := hid (H6b.out.trans (hb7.mono hB6))
              clear q0 q1 q2 q3 q4 q5 q6 q7 q8 q9 q10 q11 R1
              have r0 : w7.cell? ⟨b, o + j * 12, none⟩ = some (.int .i64 v.kind) := HYK.out w7 H7b.out 0 (by omega)
              have r1 : w7.cell? ⟨b, o + j * 12 + 1, none⟩ = some (.int .i64 v.time) := HYK.out w7 H7b.out 1 (by omega)
              have r2 : w7.cell? ⟨b, o + j * 12 + 2, none⟩ = some (.int .i64 v.txn) := HYK.out w7 H7b.out 2 (by omega)
              have r3 : w7.cell? ⟨b, o + j * 12 + 3, none⟩ = some (.int .i64 v.op) := HYK.out w7 H7b.out 3 (by omega)
              have r4 : w7.cell? ⟨b, o + j * 12 + 4, none⟩ = some (.int .i64 v.wit) := HYK.out w7 H7b.out 4 (by omega)
              have r5 : w7.cell? ⟨b, o + j * 12 + 5, none⟩ = some (.string v.key) := HYK.out w7 H7b.out 5 (by omega)
              have r6 : w7.cell? ⟨b, o + j * 12 + 6, none⟩ = some (.bool v.want) := HYK.out w7 H7b.out 6 (by omega)
              have r7 : w7.cell? ⟨b, o + j * 12 + 7, none⟩ = some (.string v.exp) := HYK.out w7 H7b.out 7 (by omega)
              have r8 : w7.cell? ⟨b, o + j * 12 + 8, none⟩ = some (.bool v.got) := HYK.out w7 H7b.out 8 (by omega)
              have r9 : w7.cell? ⟨b, o + j * 12 + 9, none⟩ = some (.string v.obs) := HYK.out w7 H7b.out 9 (by omega)
              have r10 : w7.cell? ⟨b, o + j * 12 + 10, none⟩ = some (.int .i64 v.frm) := HYK.out w7 H7b.out 10 (by omega)
              have r11 : w7.cell? ⟨b, o + j * 12 + 11, none⟩ = some (.int .i64 v.to) := HYK.out w7 H7b.out 11 (by omega)
              go_wp2_with fail
              refine (R2 w7).mono ?_
              rintro e w8 ⟨rfl, hb8⟩
              clear r0 r1 r2 r3 r4 r5 r6 r7 r8 r9 r10 r11 R2
              have H8 := hid (HH6.out.below hB6 (hb7.trans (hb8.mono hb7.size)))
              clear hb7 hb8 H7b H6b
              go_wp2_with fail
              go_roundg (k + 1 + j - (k + 1))
              case measure => omega
              case rel =>
                exact ⟨k + 1, hs5, hg6, _, _, _, _, by omega, rfl, by rw [HLX.out]; simp, by go_num, H8, by have h9 := HLX.out; simp at h9; omega, by rw [nextA_len]; split <;> omega, m1, m2⟩
            | false =>
              rw [hbx] at hcx hlx R1
              have HLX := hid hlx
              clear hlx
              have q0 : w6.cell? ⟨b, o + k * 12, none⟩ = some (.int .i64 x.kind) := HXK.out w6 H6b.out 0 (by omega)
              have q1 : w6.cell? ⟨b, o + k * 12 + 1, none⟩ = some (.int .i64 x.time) := HXK.out w6 H6b.out 1 (by omega)
              have q2 : w6.cell? ⟨b, o + k * 12 + 2, none⟩ = some (.int .i64 x.txn) := HXK.out w6 H6b.out 2 (by omega)
              have q3 : w6.cell? ⟨b, o + k * 12 + 3, none⟩ = some (.int .i64 x.op) := HXK.out w6 H6b.out 3 (by omega)
              have q4 : w6.cell? ⟨b, o + k * 12 + 4, none⟩ = some (.int .i64 x.wit) := HXK.out w6 H6b.out 4 (by omega)
              have q5 : w6.cell? ⟨b, o + k * 12 + 5, none⟩ = some (.string x.key) := HXK.out w6 H6b.out 5 (by omega)
              have q6 : w6.cell? ⟨b, o + k * 12 + 6, none⟩ = some (.bool x.want) := HXK.out w6 H6b.out 6 (by omega)
              have q7 : w6.cell? ⟨b, o + k * 12 + 7, none⟩ = some (.string x.exp) := HXK.out w6 H6b.out 7 (by omega)
              have q8 : w6.cell? ⟨b, o + k * 12 + 8, none⟩ = some (.bool x.got) := HXK.out w6 H6b.out 8 (by omega)
              have q9 : w6.cell? ⟨b, o + k * 12 + 9, none⟩ = some (.string x.obs) := HXK.out w6 H6b.out 9 (by omega)
              have q10 : w6.cell? ⟨b, o + k * 12 + 10, none⟩ = some (.int .i64 x.frm) := HXK.out w6 H6b.out 10 (by omega)
              have q11 : w6.cell? ⟨b, o + k * 12 + 11, none⟩ = some (.int .i64 x.to) := HXK.out w6 H6b.out 11 (by omega)
              go_wp2_with fail
              refine R1.mono ?_
              rintro e w7 ⟨rfl, hb7⟩
              have H7b := hid (H6b.out.trans (hb7.mono hB6))
              clear q0 q1 q2 q3 q4 q5 q6 q7 q8 q9 q10 q11 R1
              have r0 : w7.cell? ⟨b, o + j * 12, none⟩ = some (.int .i64 v.kind) := HYK.out w7 H7b.out 0 (by omega)
              have r1 : w7.cell? ⟨b, o + j * 12 + 1, none⟩ = some (.int .i64 v.time) := HYK.out w7 H7b.out 1 (by omega)
              have r2 : w7.cell? ⟨b, o + j * 12 + 2, none⟩ = some (.int .i64 v.txn) := HYK.out w7 H7b.out 2 (by omega)
              have r3 : w7.cell? ⟨b, o + j * 12 + 3, none⟩ = some (.int .i64 v.op) := HYK.out w7 H7b.out 3 (by omega)
              have r4 : w7.cell? ⟨b, o + j * 12 + 4, none⟩ = some (.int .i64 v.wit) := HYK.out w7 H7b.out 4 (by omega)
              have r5 : w7.cell? ⟨b, o + j * 12 + 5, none⟩ = some (.string v.key) := HYK.out w7 H7b.out 5 (by omega)
              have r6 : w7.cell? ⟨b, o + j * 12 + 6, none⟩ = some (.bool v.want) := HYK.out w7 H7b.out 6 (by omega)
              have r7 : w7.cell? ⟨b, o + j * 12 + 7, none⟩ = some (.string v.exp) := HYK.out w7 H7b.out 7 (by omega)
              have r8 : w7.cell? ⟨b, o + j * 12 + 8, none⟩ = some (.bool v.got) := HYK.out w7 H7b.out 8 (by omega)
              have r9 : w7.cell? ⟨b, o + j * 12 + 9, none⟩ = some (.string v.obs) := HYK.out w7 H7b.out 9 (by omega)
              have r10 : w7.cell? ⟨b, o + j * 12 + 10, none⟩ = some (.int .i64 v.frm) := HYK.out w7 H7b.out 10 (by omega)
              have r11 : w7.cell? ⟨b, o + j * 12 + 11, none⟩ = some (.int .i64 v.to) := HYK.out w7 H7b.out 11 (by omega)
              go_wp2_with fail
              refine (R2 w7).mono ?_
              rintro e w8 ⟨rfl, hb8⟩
              clear r0 r1 r2 r3 r4 r5 r6 r7 r8 r9 r10 r11 R2
              have H8 := hid (HH6.out.below hB6 (hb7.trans (hb8.mono hb7.size)))
              clear hb7 hb8 H7b H6b
              go_wp2_with fail
              go_roundg (k + 1 + j - (k + 1))
              case measure => omega
              case rel =>
                exact ⟨k + 1, hs5, hg6, _, _, _, _, by omega, rfl, by rw [HLX.out]; simp, by go_num, H8, by have h9 := HLX.out; simp at h9; omega, by rw [nextA_len]; split <;> omega, m1, m2⟩
        · have hkN : k = i := by omega
          subst hkN
          have hF1 : aS.map (·.v) = l.filter validB := by rw [hmS.out, List.take_of_length_le (by have := HL.out; omega)]
          have hF2 : aG.map (·.v) = (l.filter validB).reverse := by rw [hmG.out, List.take_of_length_le (by rw [List.length_reverse]; have := HL.out; omega), List.filter_reverse]
          have hsn := sort_notie H.out.os.num H.out.og.num hF1 hF2 hpw.out
          obtain ⟨T, hT⟩ : ∃ T, T = aS.length := ⟨_, rfl⟩
          have hT1 : (l.filter validB).length = T := by rw [← hF1, List.length_map, hT]
          have hTG : aG.length = T := by
            have := congrArg List.length hF2
            rw [List.length_map, List.length_reverse, hT1] at this
            exact this
          have hsl : (sortV (l.filter validB)).length = T := by rw [sortV_length _ _ (Nat.le_refl _), hT1]
          have hTk : T ≤ k := by omega
          have hos : On w.heap.size wr s N hs aS rS := H.out.os
          have hog : On w.heap.size wr g M hg aG rG := H.out.og
          have tS : Tp (fun _ => False) wr s N T hs rS := by rw [hT]; exact hos.tp
          have tG : Tp (fun _ => False) wr g M T hg rG := by rw [← hTG]; exact hog.tp
          have TS := hid tS
          have TG := hid tG
          have LS : Hid (∀ d : Array Pt, PermIn 0 rS.length rS.toArray d → SortedIn (ltOf cfP) 0 rS.length d → d.toList.map (·.v) = (sortV (l.filter validB)).take N) := hid (fun d h1 h2 => by rw [list_first hos.fst hos.num h1 h2, hF1])
          have LG : Hid (∀ d : Array Pt, PermIn 0 rG.length rG.toArray d → SortedIn (ltOf cfP) 0 rG.length d → d.toList.map (·.v) = (sortV (l.filter validB)).take M) := hid (fun d h1 h2 => by rw [list_first hog.fst hog.num h1 h2, hF2, hsn])
          have lS : rS.length ≤ 20000 := by have := hos.len; omega
          have lG : rG.length ≤ 20000 := by have := hog.len; omega
          have Hbl := hid H.out.bel
          rw [← hT]
          clear hF1 hF2 hsn hT1 hos hog tS tG H hmS hmG hpw HL hTG hT hlS hlG Hin
          generalize sortV (l.filter validB) = S at *
          go_wp2_with fail
          refine (list_any _ s _ _ _ _ _ TS.out lS).mono ?_
          rintro e w5 ⟨v5, d5, rfl, hp5, hs5, ho5, _, hb5⟩
          rw [LS.out d5 hp5 hs5] at ho5
          have TS5 := hid (TS.out.below hb5)
          have TG5 := hid (TG.out.below hb5)
          have HO5 := hid ho5
          have Hb5 := hid (Hbl.out.trans (hb5.mono Hbl.out.size))
          clear hp5 hs5 ho5 hb5 TS TG Hbl LS
          go_wp2_with fail
          refine (list_any _ g _ _ _ _ _ TG5.out lG).mono ?_
          rintro e w6 ⟨v6, d6, rfl, hp6, hs6, ho6, _, hb6⟩
          rw [LG.out d6 hp6 hs6] at ho6
          have TS6 := hid (TS5.out.below hb6)
          have TG6 := hid (TG5.out.below hb6)
          have HO5' := hid (ownV_below HO5.out hb6)
          have HO6 := hid ho6
          have Hb6 := hid (Hb5.out.trans (hb6.mono Hb5.out.size))
          clear hp6 hs6 ho6 hb6 TS5 TG5 Hb5 LG HO5
          obtain ⟨a5, c5, rfl, hv5, _, _⟩ := own_vin3 HO5'.out
          obtain ⟨a6, c6, rfl, hv6, hc6, hn6⟩ := own_vin3 HO6.out
          obtain ⟨n1, hn1⟩ : ∃ n1, n1 = (S.take N).length := ⟨_, rfl⟩
          obtain ⟨n2, hn2⟩ : ∃ n2, n2 = (S.take M).length := ⟨_, rfl⟩
          have hn1' : n1 = min N T := by rw [hn1, List.length_take, hsl]
          have hn2' : n2 = min M T := by rw [hn2, List.length_take, hsl]
          have htk : (S.take M).take n1 = S.take N := by
            rw [List.take_take, hn1']
            by_cases hc : N ≤ T
            · rw [Nat.min_eq_left hc, Nat.min_eq_left (by omega)]
            · rw [Nat.min_eq_right (show T ≤ N by omega), Nat.min_eq_left (show T ≤ M by omega), show S.take T = S from List.take_of_length_le (by omega), show S.take N = S from List.take_of_length_le (by omega)]
          have hv6' := hv6.take n1
          rw [htk] at hv6'
          have hsame := fun (W : World) (cb : Nat) (h1 : VIn W a5 (S.take N)) (h2 : VIn W a6 (S.take N)) => same_eq a5 a6 c5 cb (S.take N) W h1 h2 (by rw [← hn1, hn1']; omega)
          rw [← hn1] at hsame
          rw [← hn1]
          rw [← hn2] at hc6 ⊢
          have HSA := hid hsame
          have V5 := hid hv5
          have V6 := hid hv6'
          have hnil : a6 = none → n2 = 0 ∧ c6 = 0 := fun h => ⟨by rw [hn2, (hn6 h).1]; rfl, (hn6 h).2⟩
          have Hnil := hid hnil
          clear hv5 hv6 hv6' hsame hnil hn6 HO5' HO6 hn1 hn2 htk hsl lS lG
          generalize S.take N = L1 at *
          have d1 : n1 ≤ n2 := by omega
          have d2 : n1 ≤ c6 := by omega
          have d3 : (n1 : Int) ≤ (c6 : Int) := by omega
          go_wp2_with fail
          refine (total_any _ s _ _ _ _ _ TS6.out).mono ?_
          rintro e w7 ⟨rfl, rfl⟩
          go_wp2_with fail
          refine (total_any _ g _ _ _ _ _ TG6.out).mono ?_
          rintro e w8 ⟨rfl, rfl⟩
          have f1 : min N T = n1 := hn1'.symm
          have f2 : min M T = n2 := hn2'.symm
          have f3 : min (N : Int) (T : Int) = (n1 : Int) := by omega
          have f4 : min (M : Int) (T : Int) = (n2 : Int) := by omega
          have g1 : ((n1 : Int) == (min N T : Nat)) = true := by rw [f1]; simp
          cases a6 with
          | none =>
            obtain ⟨z1, z2⟩ := Hnil.out rfl
            have z3 : n1 = 0 := by omega
            subst z1 z2 z3
            clear hn1' hn2' Hnil hc6 d1 d2 d3
            go_wp2_with fail
            refine (HSA.out _ _ V5.out V6.out).mono ?_
            rintro e w9 ⟨rfl, hb9⟩
            have hb := Hb6.out.trans (hb9.mono Hb6.out.size)
            clear HSA V5 V6 hb9 Hb6
            go_wp2_with fail
            go_ret
            exact ⟨rfl, hb⟩
          | some ad =>
            obtain ⟨b, o, sp⟩ := ad
            clear hn1' hn2' Hnil hc6
            go_wp2_with fail
            refine (HSA.out _ _ V5.out V6.out).mono ?_
            rintro e w9 ⟨rfl, hb9⟩
            have hb := Hb6.out.trans (hb9.mono Hb6.out.size)
            clear HSA V5 V6 hb9 Hb6
            go_wp2_with fail
            go_ret
            exact ⟨rfl, hb⟩
end Go.Proofs.Ytgimpkbknaopcaa
