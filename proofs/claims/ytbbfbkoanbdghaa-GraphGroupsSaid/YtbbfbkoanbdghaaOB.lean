/- Order of a graph. No statement is proved here. -/
import Derived.Test.YtbbfbkoanbdghaaOA
import Derived.Deep.LoopGhost
import Derived.Maps.RangeWalk
import Derived.WalkMore
set_option linter.unusedVariables false
set_option linter.unusedSimpArgs false
namespace Go.Proofs.Ytbbfbkoanbdghaa
open Go.RowKit Go.Maps

def cellsN (out : List Nat) : List Value := out.map fun (q : Nat) => Value.int .i64 (q : Int)
theorem cellsN_length (out : List Nat) : (cellsN out).length = out.length := by simp [cellsN]
abbrev OwnN (w : World) (B : Nat) (v : Value) (out : List Nat) : Prop := w.ownsRow B 3 1 v out.length (cellsN out)
theorem n_append {w : World} {B : Nat} {v : Value} {out : List Nat} (h : OwnN w B v out) (hB : B ≤ w.heap.size) (x : Nat) (ty : TypeId) (r : Nat) (hr : w.heap[r]? = some (.cells #[.int .i64 (x : Int)] 3 (0, 0))) (hl : out.length ≤ 100000) :
    ∃ v' w', (Builtin.append_ #[38, 38] ty #[v, .slice (some ⟨r, 0, none⟩) 1 1]).run Try.prog w = .ok v' w' ∧ OwnN w' B v' (out ++ [x]) ∧ w.grownBy w' v.ownBlock ∧ (v'.ownBlock = v.ownBlock ∨ v'.ownBlock = some w.heap.size) := by
  obtain ⟨ti, hi, hz0, hz1, hz2⟩ := info_parts infoI
  obtain ⟨v', w', h1, h2, h3, h4⟩ := run_append_own3 w B 38 ty 3 ti (.int .i64 0) 1 8 Try.underlying38 hi hz0 hz1 hz2 rfl v _ _ h ⟨r, 0, none⟩ 1 1 [.int .i64 (x : Int)] rfl (fun j u hj => by
    rw [Addr.add_lit, Nat.zero_add, blk_cell hr]
    simpa using hj) (by simp [Value.oneCell']) (by unfold maxLen; omega) (by omega) hB
  refine ⟨v', w', h1, ?_, h3, h4.imp id fun h => h.1⟩
  have e1 : cellsN (out ++ [x]) = cellsN out ++ [.int .i64 (x : Int)] := by simp [cellsN]
  show w'.ownsRow B 3 1 v' (out ++ [x]).length (cellsN (out ++ [x]))
  rw [e1, List.length_append]
  exact h2
def OrdPost (w : World) (es : List E) (N : Nat) (mask : Int) (e : Ending) (w' : World) : Prop := Below w.heap.size w w' ∧
  ((∃ v out, e = .returned (.tuple #[v, .bool true]) ∧ OwnN w' w.heap.size v out ∧ Kn es N mask out ∧ out.length = N) ∨
   (∃ out, e = .returned (.tuple #[.slice none 0 0, .bool false]) ∧ Kn es N mask out ∧ out.length < N ∧ ∀ y, y < N → ¬ Free es mask out y))
theorem ranges_heap {H : Type} {P : Program} {k : TypeId} {RR : Value → Option (DataW H × List MemPlace)} {w w' : World} {b r n : Nat} {D : DataW H} {left : Lit → Bool} {cnt : Nat} (h : w.ranges P k RR b r n D left cnt) (hb : w'.heap[b]? = w.heap[b]?) (hr : w'.heap[r]? = w.heap[r]?) : w'.ranges P k RR b r n D left cnt := by
  obtain ⟨es, clock, since, seen, c0, h1, h2, h3, h4, h5, rest⟩ := h
  exact ⟨es, clock, since, seen, c0, hb.trans h1, h2, h3, h4, hr.trans h5, rest⟩
theorem grownBy_setAt (w : World) (b i : Nat) (v : Value) : w.grownBy (w.setCell ⟨b, i, none⟩ v) (some b) :=
  ⟨rfl, rfl, rfl, by simp [World.setCell], fun k _ hk => Below.heap_setCell _ _ _ _ (fun e => hk (by simp [e]))⟩
theorem World.ownsRow.below' {w w' : World} {base : Nat} {e : TypeId} {size : Nat} {v : Value} {n : Nat} {xs : List Value} (h : w.ownsRow base e size v n xs) (hb : Below w.heap.size w w') : w'.ownsRow base e size v n xs := by
  refine ⟨h.1, ?_⟩
  rcases h.2 with hn | ⟨g, cap, cur, rfl, hB, hgg, rest⟩
  · exact .inl hn
  · exact .inr ⟨g, cap, cur, rfl, hB, (hb.block g (blk_lt hgg)).trans hgg, rest⟩
set_option maxHeartbeats 4000000 in
set_option maxRecDepth 100000 in
theorem order_any {B : Nat} {w : World} {g N : Nat} {es : List E} {mb ob bb : Nat} {oc bc : Array Value} {vs : Nat → Value} (h : Gr B w g N es mb ob bb oc bc vs) (mask : Int) :
    Calls Try.prog 20 #[.pointer (some ⟨g, 0, none⟩), .int .i64 mask] w (OrdPost w es N mask) := by
  obtain ⟨ti, hi, hz0, hz1, hz2⟩ := info_parts infoI
  have hnn := h.nn
  have hmk : ∀ u : World, (Instr.makeSlice 38 (.int .i64 (N : Int)) (.int .i64 (N : Int))).run Try.prog u = .ok (.slice (some ⟨u.heap.size, 0, none⟩) N N) (u.alloc (.cells (madeCells #[.int .i64 0] N) 3)) := fun u => by
    have h := run_make (P := Try.prog) u 38 3 ti _ Try.underlying38 hi hz0 .i64 .i64 (N : Int) (N : Int) (by omega) (by omega) (by rw [hz2]; omega) (by omega)
    rw [hz1] at h
    simpa [Value.cells] using h
  have hal := (Below.refl _ w).alloc (Nat.le_refl _) (.cells (madeCells #[.int .i64 0] N) 3)
  have R1 : Hid (IntRow (w.alloc (.cells (madeCells #[.int .i64 0] N) 3)) w.heap.size N (fun _ => 0)) := hid ⟨_, heap_alloc_new w _, by rw [size_madeCells], fun i hi => by rw [← Array.getElem?_toList, toList_madeCells_one, List.getElem?_replicate, if_pos hi]⟩
  have B1 := hid hal
  have H0 := hid h
  have hN0 : N ≤ 1024 := h.nn
  have hE0 : es.length ≤ 65536 := h.len
  have g0 : w.cell? ⟨g, 0, none⟩ = some (.int .i64 (N : Int)) := (blk_cell h.hg 0).trans rfl
  have hgl : g < w.heap.size := blk_lt h.hg
  clear h hal
  go_enter Try.func20, Try.ntmps20
  go_wp2_with fail
  go_step3
  go_upto_region 2 with fail
  obtain ⟨d, hd⟩ : ∃ d, d = w.heap.size := ⟨_, rfl⟩
  obtain ⟨w1, hw1⟩ : ∃ w1, w.alloc (.cells (madeCells #[.int .i64 0] N) 3) = w1 := ⟨_, rfl⟩
  rw [hw1] at R1 B1 ⊢
  rw [← hd] at R1 ⊢
  have HD := hid hd
  have g1 : w1.cell? ⟨g, 1, none⟩ = some (.map (some mb)) := (B1.out.cell (p := ⟨g, 1, none⟩) hgl).trans ((blk_cell H0.out.hg 1).trans rfl)
  obtain ⟨DD, hown, hsz, hnd, hwf, hhas, _⟩ := H0.out.map.kept (B1.out.block mb H0.out.map.lt)
  have HH := hid (And.intro hsz (And.intro hnd (And.intro hwf hhas)))
  have hmd : Hid (mb ≠ d) := hid (by have := H0.out.map.lt; omega)
  clear hw1 hmk g0 hd hsz hnd hwf hhas
  go_wp2_with (first
    | (at_range; refine wpList_range_own _ rfl _ 62 rfl 29 3 lawE Try.underlying62 _ mb _ _ rfl hown ?_; intro w2 hrg2 hg2 hs2)
    | go_in)
  obtain ⟨r, hr⟩ : ∃ r, r = w1.heap.size := ⟨_, rfl⟩
  rw [← hr] at hrg2 ⊢
  have hrd : Hid (r ≠ d) := hid (by have := R1.out.lt; omega)
  have hrw : Hid (w.heap.size ≤ r) := hid (by have := B1.out.size; omega)
  have HR2 := hid (R1.out.kept (hg2.block d R1.out.lt (by simp)))
  have HB2 := hid (B1.out.grown hg2 B1.out.size (fun k e => by cases e))
  have HG2 := hid hrg2
  clear hr hg2 hs2 hrg2 hown R1 B1 g1
  go_frame
  obtain ⟨K0, hK0⟩ : ∃ K0, K0 = Maps.size DD := ⟨_, rfl⟩
  have hKE : K0 = es.length := hK0.trans HH.out.1
  rw [← hK0] at HG2
  clear hK0
  go_loopg [22] K0 (fun gh s22 wr => ∃ (left : Lit → Bool) (cnt : Nat) (ss : List E), ss.length + cnt ≤ es.length ∧ gh = cnt ∧ Hid (wr.ranges Try.prog 29 (plainElem Try.prog 3) mb r es.length DD left cnt) ∧ Hid (Coll DD left ss) ∧ Hid (IntRow wr d N (fun y => (cntTo ss mask y : Int))) ∧ Hid (Below w.heap.size w wr))
  case atStart => exact ⟨_, K0, [], by simp; omega, rfl, HG2, hid (Coll.start DD), HR2, HB2⟩
  case round =>
    clear HG2 HR2 HB2 hKE
    obtain ⟨left, cnt, ss, hcs, rfl, HG, HC, HR, HB⟩ := hrel
    have hrg := HG.out
    go_wp2_with (first
      | (at_next; refine wpList_next_ranges _ rfl _ rfl 29 lawE (plainElem Try.prog 3) E.agg id (fun key kl hk => by obtain ⟨x, _, hx, _⟩ := key_edge hk; exact ⟨x, hx⟩) (fun v _ _ => ⟨v, rfl⟩) mb r _ _ _ _ rfl hrg ?_ ?_)
      | go_in)
    · intro hc0 hl0
      have hperm := HC.out.perm hl0 HH.out.2.1 HH.out.2.2.1 HH.out.2.2.2
      have HR1 : Hid (IntRow wr d N (KO es mask [])) := hid (HR.out.ext fun y _ => by rw [KO_start, cntTo_perm hperm])
      have g0 : wr.cell? ⟨g, 0, none⟩ = some (.int .i64 (N : Int)) := (HB.out.cell (p := ⟨g, 0, none⟩) hgl).trans ((blk_cell H0.out.hg 0).trans rfl)
      have HO : Hid (OwnN wr w.heap.size (.slice none 0 0) []) := hid (World.ownsRow_nil _ _ _ _)
      have HK : Hid (Kn es N mask []) := hid Kn.nil
      have hdB := HR1.out.lt
      clear hperm hl0 HR HC HG hrg hrd hrw hmd HH hcs hc0
      go_wp2_with fail
      go_step3
      go_wp2_with fail
      clear g0
      go_loopg [8, 40] N (fun gh s8 s40 wr => ∃ out : List Nat, out.length ≤ N ∧ gh = N - out.length ∧ s40 = .int .i64 out.length ∧ Hid (s8.ownBlock ≠ some d) ∧ Hid (OwnN wr w.heap.size s8 out) ∧ Hid (Kn es N mask out) ∧ Hid (IntRow wr d N (KO es mask out)) ∧ Hid (Below w.heap.size w wr))
      case atStart => exact ⟨[], Nat.zero_le _, rfl, rfl, hid (by simp [Value.ownBlock]), HO, HK, HR1, HB⟩
      case round =>
        clear HO HK HR1 HB hdB
        obtain ⟨out, hol, rfl, rfl, HV, HO, HK, HR, HB⟩ := hrel
        obtain ⟨wb, rfl⟩ : ∃ wb, wb = wr := ⟨_, rfl⟩
        obtain ⟨v, rfl⟩ : ∃ v, v = u8 := ⟨_, rfl⟩
        obtain ⟨n, hn⟩ : ∃ n, n = out.length := ⟨_, rfl⟩
        rw [← hn] at hol ⊢
        have hn' := hid hn
        clear hn
        have g0 : wb.cell? ⟨g, 0, none⟩ = some (.int .i64 (N : Int)) := (HB.out.cell (p := ⟨g, 0, none⟩) hgl).trans ((blk_cell H0.out.hg 0).trans rfl)
        by_cases hlt : n < N
        · have hltI : (n : Int) < (N : Int) := by omega
          go_wp2_with fail
          go_loopg [8, 46] N (fun gh s8 s46 wr => ∃ x : Nat, x ≤ N ∧ gh = N - x ∧ v = s8 ∧ s46 = .int .i64 x ∧ wb = wr ∧ Hid (∀ y, y < x → ¬ Free es mask out y))
          case atStart => exact ⟨0, Nat.zero_le _, by omega, rfl, rfl, rfl, hid fun y hy => absurd hy (by omega)⟩
          case round =>
            obtain ⟨x, hx, rfl, rfl, rfl, rfl, HL⟩ := hrel
            by_cases hxN : x < N
            · have hxI : (x : Int) < (N : Int) := by omega
              have cx := HR.out.cell hxN
              have fx := HR.out.free x
              have HZ := hid (KO_zero (es := es) (mask := mask) (out := out) (x := x))
              obtain ⟨kx, hkx⟩ : ∃ kx, kx = KO es mask out x := ⟨_, rfl⟩
              rw [← hkx] at cx HZ
              clear hkx
              by_cases h0 : kx = 0
              · have HF := hid (HZ.out.1 h0)
                clear HZ
                obtain ⟨L, hL⟩ : ∃ L, L = rowE es N x := ⟨_, rfl⟩
                have HLr := hid hL
                have R2 : Hid (IntRow (wb.setCell ⟨d, x, none⟩ (.int .i64 (-1))) d N (KI es mask (out ++ [x]) L)) := hid ((HR.out.set hxN (-1)).ext fun y _ => by rw [hL]; exact KI_start HF.out.1 hxN y)
                have HK2 := hid (HK.out.snoc hxN HF.out HL.out)
                have HO2 := hid (HO.out.kept (grownBy_setAt wb d x (.int .i64 (-1))) (.inr HV.out))
                have HB2 := hid (HB.out.setCell (p := ⟨d, x, none⟩) (by show w.heap.size ≤ d; rw [HD.out]; exact Nat.le_refl _) (.int .i64 (-1)))
                subst h0
                clear hL HR HO HL g0
                go_upto_region 15 with fail
                obtain ⟨w2, hw2⟩ : ∃ w2, wb.setCell ⟨d, x, none⟩ (.int .i64 (-1)) = w2 := ⟨_, rfl⟩
                rw [hw2] at R2 HO2 HB2 ⊢
                clear hw2 cx fx HB
                have hal := (Below.refl _ w2).alloc (Nat.le_refl _) (.cells #[.int .i64 (x : Int)] 3)
                have HR3 := hid (R2.out.kept (hal.block d R2.out.lt))
                have HB3 := hid (HB2.out.trans (hal.mono HB2.out.size))
                obtain ⟨v', w4, hrun, hO4, hg4, hv4⟩ := n_append (HO2.out.alloc (.cells #[.int .i64 (x : Int)] 3)) (Nat.le_trans HB2.out.size hal.size) x 38 w2.heap.size (heap_alloc_new w2 _) (by rw [← hn'.out]; omega)
                have HR4 := hid (HR3.out.kept (hg4.block d HR3.out.lt (fun e => HV.out e.symm)))
                have HB4 := hid (HB3.out.grown hg4 HB3.out.size (fun k e => (HO2.out.lt k e).1))
                have HV4 : Hid (v'.ownBlock ≠ some d) := hid (by
                  rcases hv4 with e | e
                  · rw [e]; exact HV.out
                  · rw [e]
                    have h1 := HR3.out.lt
                    exact fun e' => by cases e'; exact Nat.lt_irrefl _ h1)
                have HO4 := hid hO4
                have g2 : w4.cell? ⟨g, 2, none⟩ = some (.slice (some ⟨ob, 0, none⟩) N N) := (HB4.out.cell (p := ⟨g, 2, none⟩) hgl).trans ((blk_cell H0.out.hg 2).trans rfl)
                obtain ⟨a, c2, hv, hin, _, _⟩ := own_ein (H0.out.row x (by omega))
                have b2 : w4.cell? ⟨ob, x, none⟩ = some (.slice a (rowE es N x).length c2) := (HB4.out.cell (p := ⟨ob, x, none⟩) (blk_lt H0.out.ho)).trans ((blk_cell H0.out.ho x).trans ((H0.out.co x hxN).trans (by rw [hv])))
                have HIN := hid hin
                rw [← HLr.out] at b2 HIN
                clear hal R2 HB2 HO2 HR3 HB3 hg4 hv4 hO4 hv hin
                go_wp2_with (at_builtin; refine wpList_append_run _ rfl (.tmp 57) (.tmp 59) 38 38 rfl _ _ rfl rfl hrun ?_)
                clear g2 b2 hrun
                go_loopg [69] L.length (fun gh s69 wr => ∃ p : Nat, p ≤ L.length ∧ gh = L.length - p ∧ s69 = .int .i64 p ∧ Hid (OwnN wr w.heap.size v' (out ++ [x])) ∧ Hid (IntRow wr d N (KI es mask (out ++ [x]) (L.drop p))) ∧ Hid (Below w.heap.size w wr))
                case atStart => exact ⟨0, Nat.zero_le _, by omega, rfl, HO4, HR4, HB4⟩
                case round =>
                  clear HO4 HR4 HB4
                  obtain ⟨p, hp, rfl, rfl, HO, HR, HB⟩ := hrel
                  by_cases hpl : p < L.length
                  · have hne : L ≠ [] := by
                      intro h
                      rw [h] at hpl
                      simp at hpl
                    obtain ⟨be, rfl, hbl, hce⟩ := (HIN.out.below HB.out) hne
                    have hx3 := hce p hpl
                    have hmem := out_mem hxN (show L[p] ∈ rowE es N x by rw [← HLr.out]; exact List.getElem_mem _)
                    have hok := H0.out.ok _ hmem.1
                    have hdrop := hid (List.drop_eq_getElem_cons hpl)
                    generalize L[p] = e at *
                    obtain ⟨ef, et, el⟩ := e
                    obtain ⟨k1, k2, k3, k4, k5, k6⟩ := hok
                    obtain ⟨hm1, hm2⟩ := hmem
                    simp only at k1 k2 k3 k4 k5 k6 hm2
                    subst hm2
                    obtain ⟨u, rfl⟩ := Int.eq_ofNat_of_zero_le k3
                    have huN : u < N := by omega
                    have HM := hid hm1
                    have x0 : wr.cell? ⟨be, p * 3, none⟩ = some (.int .i64 (x : Int)) := hx3 0 (by omega)
                    have x1 : wr.cell? ⟨be, p * 3 + 1, none⟩ = some (.int .i64 (u : Int)) := hx3 1 (by omega)
                    have x2 : wr.cell? ⟨be, p * 3 + 2, none⟩ = some (.int .i64 el) := hx3 2 (by omega)
                    have hpI : (p : Int) < (L.length : Int) := by omega
                    have hp63 : (p : Int) + 1 ≤ 9223372036854775807 := by
                      have h1 := rowE_len es N x
                      rw [← HLr.out] at h1
                      omega
                    have hLE : L.length ≤ 65536 := by
                      have h1 := rowE_len es N x
                      rw [← HLr.out] at h1
                      omega
                    have hal := (Below.refl _ wr).alloc (Nat.le_refl _) (.cells #[.int .i64 (x : Int), .int .i64 (u : Int), .int .i64 el] 29)
                    have X4 : Hid ((wr.alloc (.cells #[.int .i64 (x : Int), .int .i64 (u : Int), .int .i64 el] 29)).heap[wr.heap.size]? = some (.cells #[.int .i64 (x : Int), .int .i64 (u : Int), .int .i64 el] 29 (0, 0))) := hid (heap_alloc_new wr _)
                    have HO4 := hid (HO.out.alloc (.cells #[.int .i64 (x : Int), .int .i64 (u : Int), .int .i64 el] 29))
                    have HR4 := hid (HR.out.kept (hal.block d HR.out.lt))
                    have HB4 := hid (HB.out.trans (hal.mono HB.out.size))
                    have hbx : wr.heap.size ≠ d := by have := HR.out.lt; omega
                    clear hx3 hce hm1 hal HO HR HB
                    go_upto_region 19 with fail
                    clear x0 x1 x2
                    obtain ⟨w4, hw4⟩ : ∃ w4, wr.alloc (.cells #[.int .i64 (x : Int), .int .i64 (u : Int), .int .i64 el] 29) = w4 := ⟨_, rfl⟩
                    obtain ⟨bx, hbx2⟩ : ∃ bx, bx = wr.heap.size := ⟨_, rfl⟩
                    rw [hw4] at X4 HO4 HR4 HB4 ⊢
                    rw [← hbx2] at X4 hbx ⊢
                    clear hw4 hbx2
                    have x0 : w4.cell? ⟨bx, 0, none⟩ = some (.int .i64 (x : Int)) := (blk_cell X4.out 0).trans rfl
                    have x1 : w4.cell? ⟨bx, 1, none⟩ = some (.int .i64 (u : Int)) := (blk_cell X4.out 1).trans rfl
                    have x2 : w4.cell? ⟨bx, 2, none⟩ = some (.int .i64 el) := (blk_cell X4.out 2).trans rfl
                    have hinn := in_any ⟨(x : Int), (u : Int), el⟩ mask w4 k5 k6
                    have huI : (u : Int) < (N : Int) := by omega
                    cases hin : inM el mask with
                    | false =>
                      simp only [hin] at hinn
                      have HI := hid hinn
                      clear hinn
                      go_wp2_with (go_at_call 34; refine HI.out.mono ?_; rintro e w5 ⟨rfl, hla⟩)
                      have HO5 := hid (World.ownsRow.below' HO4.out hla.below)
                      have HR5 := hid (((HR4.out.ext (D' := KI es mask (out ++ [x]) (L.drop (p + 1))) fun y _ => (congrArg (fun l => KI es mask (out ++ [x]) l y) hdrop.out).trans (KI_off (e := ⟨(x : Int), (u : Int), el⟩) (L := L.drop (p + 1)) hin y))).kept (hla.below.block d HR4.out.lt))
                      have HB5 := hid (HB4.out.trans (hla.below.mono HB4.out.size))
                      go_roundg (L.length - (p + 1))
                      case measure => omega
                      case rel => exact ⟨p + 1, by omega, rfl, by go_num, HO5, HR5, HB5⟩
                    | true =>
                      simp only [hin] at hinn
                      have HI := hid hinn
                      have hfr := HK.out.fresh HF.out HM.out hin rfl (show (⟨(x : Int), (u : Int), el⟩ : E).to = (u : Int) from rfl)
                      have hkr := KI_range es mask (out ++ [x]) (L.drop p) hE0 (by rw [List.length_drop]; omega) u
                      obtain ⟨ku, hku⟩ : ∃ ku, ku = KI es mask (out ++ [x]) (L.drop p) u := ⟨_, rfl⟩
                      have HKU := hid hku
                      have du4 := HR4.out.cell huN
                      rw [← hku] at hkr du4
                      have HFR := hid hfr
                      have hwrap : IntKind.i64.wrap (ku - 1) = ku - 1 := by
                        rw [IntKind.wrap_i64]
                        omega
                      clear hinn hfr hku hkr
                      go_wp2_with (go_at_call 34; refine HI.out.mono ?_; rintro e w5 ⟨rfl, hla⟩; have y1 : w5.cell? ⟨bx, 1, none⟩ = some (.int .i64 (u : Int)) := (hla.below.cell (p := ⟨bx, 1, none⟩) (blk_lt X4.out)).trans x1; have du : w5.cell? ⟨d, u, none⟩ = some (.int .i64 ku) := (hla.below.cell (p := ⟨d, u, none⟩) HR4.out.lt).trans du4; have fu : w5.frozen? ⟨d, u, none⟩ = false := (HR4.out.kept (hla.below.block d HR4.out.lt)).free u)
                      have HO5 := hid ((World.ownsRow.below' HO4.out hla.below).kept (grownBy_setAt w5 d u (.int .i64 (ku - 1))) (.inr HV4.out))
                      have HR5 := hid (((HR4.out.kept (hla.below.block d HR4.out.lt)).set huN (ku - 1)).ext (D' := KI es mask (out ++ [x]) (L.drop (p + 1))) fun y _ => by rw [HKU.out, hdrop.out]; exact KI_in (e := ⟨(x : Int), (u : Int), el⟩) (L := L.drop (p + 1)) hin rfl HFR.out y)
                      have HB5 := hid ((HB4.out.trans (hla.below.mono HB4.out.size)).setCell (p := ⟨d, u, none⟩) (by show w.heap.size ≤ d; rw [HD.out]; exact Nat.le_refl _) (.int .i64 (ku - 1)))
                      go_roundg (L.length - (p + 1))
                      case measure => omega
                      case rel => exact ⟨p + 1, by omega, rfl, by go_num, HO5, HR5, HB5⟩
                  · have hpe : p = L.length := by omega
                    have HR5 := hid (HR.out.ext (D' := KO es mask (out ++ [x])) fun y _ => by rw [hpe, List.drop_length]; exact KI_end es mask (out ++ [x]) y)
                    have hn2 : (out ++ [x]).length = n + 1 := by rw [List.length_append, ← hn'.out]; rfl
                    have HN2 := hid hn2
                    clear hn2
                    go_wp2_with fail
                    go_roundg (N - (n + 1))
                    case measure => have := hn'.out; omega
                    case rel => exact ⟨out ++ [x], by rw [HN2.out]; omega, by rw [HN2.out], by rw [HN2.out]; go_num, HV4, HO, HK2, HR5, HB⟩
              · go_wp2_with fail
                go_roundg (N - (x + 1))
                case measure => omega
                case rel => exact ⟨x + 1, by omega, rfl, rfl, by go_num, rfl, hid fun y hy => by
                  by_cases e : y = x
                  · subst e
                    exact fun hf => h0 (HZ.out.2 hf)
                  · exact HL.out y (by omega)⟩
            · have hNx : x = N := by omega
              subst hNx
              go_wp2_with fail
              go_ret2
              exact ⟨HB.out, .inr ⟨out, rfl, HK.out, by rw [← hn'.out]; exact hlt, HL.out⟩⟩
        · have hNn : n = N := by omega
          subst hNn
          go_wp2_with fail
          go_ret2
          exact ⟨HB.out, .inl ⟨_, out, rfl, HO.out, HK.out, hn'.out.symm⟩⟩
    · intro x' c kl yd yp w2 cnt2 hkey hlk hv hat hrg2 hlt hg2 hs2 hen
      obtain ⟨x, hx', ex, rfl⟩ := key_edge hkey
      obtain rfl : x' = x := agg_inj ex
      obtain ⟨y, hy, hk⟩ := (HH.out.2.2.2 _).1 (has_true_of_atKey hat)
      have hxe : x' ∈ es := by rw [keyE_inj hx' (HH.out.2.2.1 y hy) hk]; exact hy
      have hok := H0.out.ok _ hxe
      have HC2 := hid (HC.out.step hx' (has_true_of_atKey hat) hlk)
      have HR2 := hid (HR.out.kept (hg2.block d HR.out.lt (fun e => by cases e; exact hrd.out rfl)))
      have HB2 := hid (HB.out.grown hg2 HB.out.size (fun k e => by cases e; exact hrw.out))
      obtain ⟨xf, xt, xl⟩ := x'
      obtain ⟨k1, k2, k3, k4, k5, k6⟩ := hok
      simp only at k1 k2 k3 k4 k5 k6
      obtain ⟨u, rfl⟩ := Int.eq_ofNat_of_zero_le k3
      have huN : u < N := by omega
      have huI : (u : Int) < (N : Int) := by omega
      have hal := (Below.refl _ w2).alloc (Nat.le_refl _) (.cells #[.int .i64 xf, .int .i64 (u : Int), .int .i64 xl] 29)
      have HG3 := hid (hrg2.alloc (.cells #[.int .i64 xf, .int .i64 (u : Int), .int .i64 xl] 29))
      have X3 : Hid ((w2.alloc (.cells #[.int .i64 xf, .int .i64 (u : Int), .int .i64 xl] 29)).heap[w2.heap.size]? = some (.cells #[.int .i64 xf, .int .i64 (u : Int), .int .i64 xl] 29 (0, 0))) := hid (heap_alloc_new w2 _)
      have HR3 := hid (HR2.out.kept (hal.block d HR2.out.lt))
      have HB3 := hid (HB2.out.trans (hal.mono HB2.out.size))
      have hbx : Hid (w2.heap.size ≠ d) := hid (by have := HR2.out.lt; omega)
      have HLT := hid hlt
      clear hkey ex hlk hv hat hrg2 hg2 hs2 hk hy hxe hx' hal HR2 HB2 HC HR HB HG hrg hlt
      go_upto_region 5 with fail
      clear hen
      obtain ⟨w3, hw3⟩ : ∃ w3, w2.alloc (.cells #[.int .i64 xf, .int .i64 (u : Int), .int .i64 xl] 29) = w3 := ⟨_, rfl⟩
      obtain ⟨bx, hbx2⟩ : ∃ bx, bx = w2.heap.size := ⟨_, rfl⟩
      rw [hw3] at X3 HG3 HR3 HB3 ⊢
      rw [← hbx2] at X3 hbx ⊢
      clear hw3 hbx2
      have x0 : w3.cell? ⟨bx, 0, none⟩ = some (.int .i64 xf) := (blk_cell X3.out 0).trans rfl
      have x1 : w3.cell? ⟨bx, 1, none⟩ = some (.int .i64 (u : Int)) := (blk_cell X3.out 1).trans rfl
      have x2 : w3.cell? ⟨bx, 2, none⟩ = some (.int .i64 xl) := (blk_cell X3.out 2).trans rfl
      have hinn := in_any ⟨xf, (u : Int), xl⟩ mask w3 k5 k6
      have hcs2 : (ss ++ [(⟨xf, (u : Int), xl⟩ : E)]).length + cnt2 ≤ es.length := by
        have := HLT.out
        simp
        omega
      have HCS := hid hcs2
      clear hcs2
      have hml : Hid (mb < w3.heap.size) := hid HG3.out.owns.lt
      have hrl : Hid (r < w3.heap.size) := hid HG3.out.lt
      cases hin : inM xl mask with
      | false =>
        simp only [hin] at hinn
        have HI := hid hinn
        clear hinn
        go_wp2_with (go_at_call 34; refine HI.out.mono ?_; rintro e w5 ⟨rfl, hla⟩)
        have HG5 := hid (ranges_heap HG3.out (hla.below.block mb hml.out) (hla.below.block r hrl.out))
        have HR5 := hid ((HR3.out.kept (hla.below.block d HR3.out.lt)).ext (D' := fun y => (cntTo (ss ++ [(⟨xf, (u : Int), xl⟩ : E)]) mask y : Int)) fun y _ => by rw [cntTo_append, cntTo_cons, if_neg (by simp [hin])]; simp [cntTo])
        have HB5 := hid (HB3.out.trans (hla.below.mono HB3.out.size))
        go_roundg cnt2
        case measure => exact HLT.out
        case rel => exact ⟨_, cnt2, _, HCS.out, rfl, HG5, HC2, HR5, HB5⟩
      | true =>
        simp only [hin] at hinn
        have HI := hid hinn
        have du3 := HR3.out.cell huN
        have hkr := cntTo_le ss mask u
        obtain ⟨ku, hku⟩ : ∃ ku : Int, ku = (cntTo ss mask u : Int) := ⟨_, rfl⟩
        have HKU := hid hku
        rw [← hku] at du3
        have hwrap : IntKind.i64.wrap (ku + 1) = ku + 1 := by
          rw [IntKind.wrap_i64]
          omega
        clear hinn hku hkr
        go_wp2_with (go_at_call 34; refine HI.out.mono ?_; rintro e w5 ⟨rfl, hla⟩; have y1 : w5.cell? ⟨bx, 1, none⟩ = some (.int .i64 (u : Int)) := (hla.below.cell (p := ⟨bx, 1, none⟩) (blk_lt X3.out)).trans x1; have du : w5.cell? ⟨d, u, none⟩ = some (.int .i64 ku) := (hla.below.cell (p := ⟨d, u, none⟩) HR3.out.lt).trans du3; have fu : w5.frozen? ⟨d, u, none⟩ = false := (HR3.out.kept (hla.below.block d HR3.out.lt)).free u)
        have HG5 := hid (ranges_heap HG3.out ((Below.heap_setCell w5 ⟨d, u, none⟩ (.int .i64 (ku + 1)) mb hmd.out).trans (hla.below.block mb hml.out)) ((Below.heap_setCell w5 ⟨d, u, none⟩ (.int .i64 (ku + 1)) r hrd.out).trans (hla.below.block r hrl.out)))
        have HR5 := hid (((HR3.out.kept (hla.below.block d HR3.out.lt)).set huN (ku + 1)).ext (D' := fun y => (cntTo (ss ++ [(⟨xf, (u : Int), xl⟩ : E)]) mask y : Int)) fun y _ => by
          rw [cntTo_append, cntTo_cons]
          by_cases e : y = u
          · subst e
            rw [upd_same, HKU.out, if_pos ⟨hin, rfl⟩]
            simp [cntTo]
          · rw [upd_other e, if_neg (fun h' => e (by have := h'.2; simp only at this; omega))]
            simp [cntTo])
        have HB5 := hid ((HB3.out.trans (hla.below.mono HB3.out.size)).setCell (p := ⟨d, u, none⟩) (by show w.heap.size ≤ d; rw [HD.out]; exact Nat.le_refl _) (.int .i64 (ku + 1)))
        go_roundg cnt2
        case measure => exact HLT.out
        case rel => exact ⟨_, cnt2, _, HCS.out, rfl, HG5, HC2, HR5, HB5⟩
end Go.Proofs.Ytbbfbkoanbdghaa
