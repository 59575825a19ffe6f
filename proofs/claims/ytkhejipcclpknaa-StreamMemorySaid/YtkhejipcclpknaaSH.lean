/- A device's write. No statement is proved here. -/
import Derived.Test.YtkhejipcclpknaaSG
set_option linter.unusedVariables false
set_option linter.unusedSimpArgs false
namespace Go.Proofs.Ytkhejipcclpknaa
open Go.RowKit

def Dv.put (D : Dv) (b : Nat) (l : List Int) : Dv := { D with mem := D.mem.take (b * D.unit) ++ l ++ D.mem.drop (b * D.unit + l.length) }
/-- What a write answers, and the device behind it. -/
def Dv.write (D : Dv) (b : Int) (l : List Int) : Int × Dv :=
  if D.down = true then (34, D) else if b < 0 ∨ (D.scr : Int) ≤ b then (35, D)
  else match ({ D with cw := wr64 (D.cw + 1) } : Dv).hit 4 0 (wr64 (D.cw + 1)) with
  | some f => (34, { (({ D with cw := wr64 (D.cw + 1), ck := wr64 (D.ck + 1) } : Dv).put b.toNat (l.take f.keep.toNat)) with down := true })
  | none => match ({ D with cw := wr64 (D.cw + 1) } : Dv).hit 3 0 (wr64 (D.cw + 1)) with
    | some f => (38, { D with cw := wr64 (D.cw + 1), ck := wr64 (D.ck + 1) })
    | none => (0, ({ D with cw := wr64 (D.cw + 1) } : Dv).put b.toNat l)
theorem DvM.putMem {w : World} {d : Dl} {D : Dv} (h : DvM w d D) {n : Nat} (hn : n < D.scr) {l : List Int} (hl : l.length ≤ D.unit) {cur : Array Value} (hc : w.heap[d.sb]? = some (.cells cur 5 (0, 0))) :
    DvM (w.setRow d.sb (spl cur (n * D.unit) (cellsB l))) d (D.put n l) := by
  obtain ⟨a1, a2, a3, a4, a5, a6, a7, a8, a9, a10⟩ := h.ap
  have hne : ∀ j, j ≠ d.sb → (w.setRow d.sb (spl cur (n * D.unit) (cellsB l))).heap[j]? = w.heap[j]? := fun j hj => setRow_other w d.sb j _ hj
  have hle : n * D.unit + D.unit ≤ D.mem.length := by
    have := Nat.mul_le_mul_right D.unit (show n + 1 ≤ D.scr by omega)
    rw [Nat.add_mul, Nat.one_mul, Nat.mul_comm D.scr D.unit, ← h.ml] at this
    exact this
  refine ⟨(hne _ a2).trans h.hg, ?_, ?_, h.hm.kept (hne _ (fun e => a6 e.symm)), own_same h.hf fun j hj => hne j (fun e => a9 (by rw [hj, e])), h.ap, h.u0, h.u1, h.s1, h.i1, ?_, h.fl, h.fk⟩
  · obtain ⟨cur, h1, r⟩ := h.hi
    exact ⟨cur, (hne _ a4).trans h1, r⟩
  · obtain ⟨cur', h1, h2⟩ := h.hs
    rw [hc] at h1
    cases h1
    refine ⟨_, setRow_heap w d.sb cur _ _ _ hc, ?_⟩
    rw [spl_list, h2]
    unfold Dv.put cellsB
    simp [List.map_take, List.map_drop]
  · unfold Dv.put
    simp only [List.length_append, List.length_take, List.length_drop]
    have := h.ml
    omega
def WrPost (w : World) (d : Dl) (r : Int × Dv) (e : Ending) (w' : World) : Prop := e = .returned (.int .i64 r.1) ∧ DvM w' d r.2 ∧ Upd d.S w w'
/-- Bytes that can be read. -/
def BytesAt (w : World) (b o : Nat) (l : List Int) : Prop := ∀ i (h : i < l.length), w.cell? ⟨b, o + i, none⟩ = some (.int .u8 l[i])
theorem BytesAt.upd {S : Nat → Prop} {w w' : World} {b o : Nat} {l : List Int} (h : BytesAt w b o l) (u : Upd S w w') (hb : b < w.heap.size) (hs : ¬ S b) : BytesAt w' b o l := fun i hi => (u.cell (p := ⟨b, o + i, none⟩) hb hs).trans (h i hi)
theorem sizeB : (Try.prog.info? 5).map (·.size) = some 1 := by kernel_rfl
/-- copy of bytes into a device's block. -/
theorem copy_in {w : World} {d : Dl} {D : Dv} (h : DvM w d D) {n : Nat} (hn : n < D.scr) (ty : TypeId) (b o c cap : Nat) {l : List Int} (hl : l.length ≤ D.unit) (hb : BytesAt w b o l) :
    ∃ v' w', (Builtin.copy_ #[22, 22] ty #[.slice (some ⟨d.sb, n * D.unit, none⟩) D.unit c, .slice (some ⟨b, o, none⟩) l.length cap]).run Try.prog w = .ok v' w' ∧ DvM w' d (D.put n l) ∧ Upd d.S w w' := by
  obtain ⟨cur, h1, h2⟩ := h.hs
  have hsz : cur.size = D.unit * D.scr := by rw [← Array.length_toList, h2, cellsB_length, h.ml]
  have hle : n * D.unit + D.unit ≤ D.unit * D.scr := by
    have := Nat.mul_le_mul_right D.unit (show n + 1 ≤ D.scr by omega)
    rw [Nat.add_mul, Nat.one_mul, Nat.mul_comm D.scr D.unit] at this
    exact this
  have hrun := run_copy_rowN (P := Try.prog) w 22 22 ty 5 1 d.sb (n * D.unit) D.unit c ⟨b, o, none⟩ l.length cap cur 5 (cellsB l) Try.underlying22 sizeB h1 (by rw [cellsB_length, Nat.mul_one]; omega) (fun j v hj => by
    have hj' : j < l.length := by
      have := (List.getElem?_eq_some_iff.1 hj).1
      rwa [cellsB_length] at this
    rw [cellsB_get l j hj'] at hj
    rw [Addr.add_lit, hb j hj']
    exact hj) (by rw [cellsB_length]; omega) (cellsB_one l)
  exact ⟨_, _, hrun, h.putMem hn hl h1, (Upd.refl _ _).setRow d.sb (.inr (.inr (.inl rfl))) _⟩
set_option maxHeartbeats 4000000 in
set_option maxRecDepth 100000 in
theorem write_any {w : World} {d : Dl} {D : Dv} (h : DvM w d D) (b : Int) (ab ao cap : Nat) (l : List Int) (hl : l.length = D.unit) (hcap : l.length ≤ cap) (hb : BytesAt w ab ao l) (habl : ab < w.heap.size) (habs : ¬ d.S ab) :
    Calls Try.prog 54 #[.pointer (some ⟨d.g, 0, none⟩), .int .i64 b, .slice (some ⟨ab, ao, none⟩) D.unit cap] w (WrPost w d (D.write b l)) := by
  have g10 : w.cell? ⟨d.g, 10, none⟩ = some (.bool D.down) := (h.cell 10).trans rfl
  have g8 : w.cell? ⟨d.g, 8, none⟩ = some (.int .i64 D.cw) := (h.cell 8).trans rfl
  have g1 : w.cell? ⟨d.g, 1, none⟩ = some (.int .i64 D.scr) := (h.cell 1).trans rfl
  have g0 : w.cell? ⟨d.g, 0, none⟩ = some (.int .i64 D.unit) := (h.cell 0).trans rfl
  have f8 := h.free 8
  have H0 := hid h
  cases hdn : D.down with
  | true =>
    rw [hdn] at g10
    have HR := hid (show D.write b l = (34, D) by unfold Dv.write; rw [if_pos hdn])
    clear h hb
    go_enter Try.func54, Try.ntmps54
    go_wp2_with fail
    go_ret
    rw [HR.out]
    exact ⟨rfl, H0.out, Upd.refl _ _⟩
  | false =>
    rw [hdn] at g10
    by_cases hb0 : b < 0
    · have HR := hid (show D.write b l = (35, D) by unfold Dv.write; rw [if_neg (by simp [hdn]), if_pos (.inl hb0)])
      clear h hb
      go_enter Try.func54, Try.ntmps54
      go_wp2_with fail
      go_ret
      rw [HR.out]
      exact ⟨rfl, H0.out, Upd.refl _ _⟩
    by_cases hb1 : (D.scr : Int) ≤ b
    · have HR := hid (show D.write b l = (35, D) by unfold Dv.write; rw [if_neg (by simp [hdn]), if_pos (.inr hb1)])
      clear h hb
      go_enter Try.func54, Try.ntmps54
      go_wp2_with fail
      go_ret
      rw [HR.out]
      exact ⟨rfl, H0.out, Upd.refl _ _⟩
    obtain ⟨n, rfl⟩ := Int.eq_ofNat_of_zero_le (show 0 ≤ b by omega)
    have hn : n < D.scr := by omega
    obtain ⟨D1, hD1⟩ : ∃ D1 : Dv, D1 = { D with cw := wr64 (D.cw + 1) } := ⟨_, rfl⟩
    have H1 : Hid (DvM (w.setCell ⟨d.g, 8, none⟩ (.int .i64 (wrap64 (D.cw + 1)))) d D1) := hid (by rw [hD1]; exact h.setCw _)
    have U1 : Hid (Upd d.S w (w.setCell ⟨d.g, 8, none⟩ (.int .i64 (wrap64 (D.cw + 1))))) := hid ((Upd.refl _ _).setCell (p := ⟨d.g, 8, none⟩) (fun _ => .inl rfl) _)
    have HBY : Hid (BytesAt (w.setCell ⟨d.g, 8, none⟩ (.int .i64 (wrap64 (D.cw + 1)))) ab ao l) := hid (hb.upd U1.out habl habs)
    have HR := hid (show D.write (n : Int) l = (match D1.hit 4 0 (wr64 (D.cw + 1)) with
      | some f => (34, { (({ D1 with ck := wr64 (D1.ck + 1) } : Dv).put n (l.take f.keep.toNat)) with down := true })
      | none => match D1.hit 3 0 (wr64 (D.cw + 1)) with
        | some f => (38, { D1 with ck := wr64 (D1.ck + 1) })
        | none => (0, D1.put n l)) by
      unfold Dv.write
      rw [if_neg (by simp [hdn]), if_neg (by omega), hD1]
      rfl)
    have hu : D1.unit = D.unit := by rw [hD1]
    have hsc : D1.scr = D.scr := by rw [hD1]
    have hck : D1.cw = wr64 (D.cw + 1) := by rw [hD1]
    have HU := hid hu
    have HSC := hid hsc
    have HAB := hid (And.intro (Nat.lt_of_lt_of_le habl U1.out.size) habs)
    have HLL := hid hl
    have g8' : (w.setCell ⟨d.g, 8, none⟩ (.int .i64 (wrap64 (D.cw + 1)))).cell? ⟨d.g, 8, none⟩ = some (.int .i64 (wr64 (D.cw + 1))) := (H1.out.cell 8).trans (by show some (Value.int .i64 D1.cw) = _; rw [hck])
    obtain ⟨c1, hc1⟩ : ∃ c1, c1 = wr64 (D.cw + 1) := ⟨_, rfl⟩
    rw [← hc1] at HR g8'
    have HS4 := hid (struck_any H1.out 4 0 c1)
    clear h hb hD1 hu hsc hck hc1 hl habs
    go_enter Try.func54, Try.ntmps54
    go_upto_region 8 with fail
    clear g10 g8 f8 g1
    obtain ⟨w2, hw2⟩ : ∃ w2, w.setCell ⟨d.g, 8, none⟩ (.int .i64 (wrap64 (D.cw + 1))) = w2 := ⟨_, rfl⟩
    rw [hw2] at H1 U1 HBY HS4 HAB g8' ⊢
    clear hw2
    cases hh4 : D1.hit 4 0 c1 with
    | some f =>
      rw [hh4] at HS4 HR
      unfold hitV at HS4
      have hfm := List.mem_of_find?_eq_some hh4
      have hkp := H1.out.fk f hfm
      rw [HU.out] at hkp
      clear hh4 hfm
      obtain ⟨fk, fb, fn, fp⟩ := f
      simp only at hkp
      obtain ⟨k, rfl⟩ := Int.eq_ofNat_of_zero_le hkp.1
      have hk : k ≤ D.unit := by omega
      clear hkp
      go_upto_region 10 with (go_at_call 67; refine HS4.out.mono ?_; rintro e w3 ⟨rfl, hb3⟩; have HB3 := hid hb3; clear hb3)
      clear HS4
      obtain ⟨w4, hw4⟩ : ∃ w4, w3.alloc (.cells #[.int .i64 fk, .int .i64 fb, .int .i64 fn, .int .i64 (k : Int)] 60) = w4 := ⟨_, rfl⟩
      obtain ⟨tb, htb⟩ : ∃ tb, tb = w3.heap.size := ⟨_, rfl⟩
      have T4 : Hid (w4.heap[tb]? = some (.cells #[.int .i64 fk, .int .i64 fb, .int .i64 fn, .int .i64 (k : Int)] 60 (0, 0))) := hid (by rw [← hw4, htb]; exact heap_alloc_new w3 _)
      have HB4 : Hid (Below w2.heap.size w2 w4) := hid (by rw [← hw4]; exact HB3.out.trans (((Below.refl _ w3).alloc (Nat.le_refl _) _).mono HB3.out.size))
      have HTB : Hid (w2.heap.size ≤ tb) := hid (by rw [htb]; exact HB3.out.size)
      rw [hw4]
      rw [← htb]
      clear hw4 htb HB3
      have H4 := hid (H1.out.below HB4.out)
      have g9 : w4.cell? ⟨d.g, 9, none⟩ = some (.int .i64 D1.ck) := (H4.out.cell 9).trans rfl
      have f9 := H4.out.free 9
      have H5 : Hid (DvM (w4.setCell ⟨d.g, 9, none⟩ (.int .i64 (wrap64 (D1.ck + 1)))) d { D1 with ck := wr64 (D1.ck + 1) }) := hid (H4.out.setCk _)
      have U5 : Hid (Upd d.S w (w4.setCell ⟨d.g, 9, none⟩ (.int .i64 (wrap64 (D1.ck + 1))))) := hid ((U1.out.trans (Upd.of_new HB4.out) fun _ _ h => h).setCell (p := ⟨d.g, 9, none⟩) (fun _ => .inl rfl) _)
      have U45 : Hid (Upd d.S w2 (w4.setCell ⟨d.g, 9, none⟩ (.int .i64 (wrap64 (D1.ck + 1))))) := hid ((Upd.of_new HB4.out).setCell (p := ⟨d.g, 9, none⟩) (fun _ => .inl rfl) _)
      have T5 : Hid ((w4.setCell ⟨d.g, 9, none⟩ (.int .i64 (wrap64 (D1.ck + 1)))).heap[tb]? = some (.cells #[.int .i64 fk, .int .i64 fb, .int .i64 fn, .int .i64 (k : Int)] 60 (0, 0))) := hid (by
        rw [Below.heap_setCell w4 ⟨d.g, 9, none⟩ _ tb (fun e => by have := H1.out.lt d.g (.inl rfl); have := HTB.out; simp only at e; omega)]
        exact T4.out)
      go_upto_region 11 with fail
      clear g9 f9
      obtain ⟨w5, hw5⟩ : ∃ w5, w4.setCell ⟨d.g, 9, none⟩ (.int .i64 (wrap64 (D1.ck + 1))) = w5 := ⟨_, rfl⟩
      rw [hw5] at H5 U5 U45 T5 ⊢
      clear hw5
      have t3 : w5.cell? ⟨tb, 3, none⟩ = some (.int .i64 (k : Int)) := (blk_cell T5.out 3).trans rfl
      have hblk := block_any (w := w5.drew) (H5.out.kept fun _ _ => rfl) n (by show n < D1.scr; rw [HSC.out]; exact hn)
      have hlk : (l.take k).length = k := by rw [List.length_take, HLL.out]; omega
      obtain ⟨cv, w7, hcp, h7, u7⟩ := copy_in (w := w5.drew.drew) (H5.out.kept fun _ _ => rfl) (n := n) (by show n < D1.scr; rw [HSC.out]; exact hn) 3 ab ao (D.unit * D.scr - n * D.unit) cap (l := l.take k) (by show _ ≤ D1.unit; rw [hlk, HU.out]; exact hk) (fun i hi => by
        have hi' : i < l.length := by rw [HLL.out]; rw [hlk] at hi; omega
        rw [List.getElem_take]
        exact (HBY.out.upd U45.out HAB.out.1 HAB.out.2) i hi')
      rw [hlk] at hcp
      rw [show ({ D1 with ck := wr64 (D1.ck + 1) } : Dv).unit = D.unit from HU.out] at hcp hblk
      rw [show ({ D1 with ck := wr64 (D1.ck + 1) } : Dv).scr = D.scr from HSC.out] at hblk
      have HBK := hid hblk
      have H7 := hid h7
      have U7 := hid u7
      have t3' : w7.cell? ⟨tb, 3, none⟩ = some (.int .i64 (k : Int)) := (u7.cell (p := ⟨tb, 3, none⟩) (blk_lt T5.out) (fun hh => by
        have := H1.out.lt tb hh
        have := HTB.out
        omega)).trans t3
      have hk0 : (0 : Int) ≤ (k : Int) := by omega
      have hkc : k ≤ cap := by have := HLL.out; omega
      have hkcI : (k : Int) ≤ (cap : Int) := by omega
      have hc0 : ¬ cap = 0 := by have := HLL.out; have := H1.out.u0; rw [HU.out] at this; omega
      clear h7 u7 hblk hlk
      go_region_held3 (fun W : World => W.cell? ⟨tb, 3, none⟩ = some (.int .i64 (k : Int))) (go_keep) (first | (go_at_call 68; refine HBK.out.mono ?_; rintro e w6 ⟨rfl, rfl⟩) | (refine step_copy_run rfl _ _ 22 22 rfl _ _ rfl rfl hcp ?_))
      all_goals have g10 : w7.cell? ⟨d.g, 10, none⟩ = some (.bool D1.down) := (H7.out.cell 10).trans rfl
      all_goals have f10 := H7.out.free 10
      all_goals have H8 := hid (H7.out.setDown true)
      all_goals have U8 := hid ((U5.out.trans ((Upd.refl _ _).drew.drew.trans U7.out fun _ _ h => h) fun _ _ h => h).setCell (p := ⟨d.g, 10, none⟩) (fun _ => .inl rfl) (.bool true))
      all_goals go_wp2_with fail
      all_goals go_ret
      all_goals rw [HR.out]
      all_goals exact ⟨rfl, H8.out, U8.out⟩
    | none =>
      rw [hh4] at HS4 HR
      unfold hitV at HS4
      clear hh4
      go_upto_region 14 with (go_at_call 67; refine HS4.out.mono ?_; rintro e w3 ⟨rfl, hb3⟩; have HB3 := hid hb3; clear hb3)
      clear HS4
      obtain ⟨w4, hw4⟩ : ∃ w4, w3.alloc (.cells #[.int .i64 0, .int .i64 0, .int .i64 0, .int .i64 0] 60) = w4 := ⟨_, rfl⟩
      have HB4 : Hid (Below w2.heap.size w2 w4) := hid (by rw [← hw4]; exact HB3.out.trans (((Below.refl _ w3).alloc (Nat.le_refl _) _).mono HB3.out.size))
      rw [hw4]
      clear hw4 HB3
      have H4 := hid (H1.out.below HB4.out)
      have hgl : d.g < w2.heap.size := H1.out.lt d.g (.inl rfl)
      have g8'' : w4.cell? ⟨d.g, 8, none⟩ = some (.int .i64 c1) := (HB4.out.cell (p := ⟨d.g, 8, none⟩) hgl).trans g8'
      have HS3 := hid (struck_any H4.out 3 0 c1)
      clear g8' hgl
      cases hh3 : D1.hit 3 0 c1 with
      | some f =>
        rw [hh3] at HS3 HR
        unfold hitV at HS3
        go_upto_region 16 with (go_at_call 67; refine HS3.out.mono ?_; rintro e w5 ⟨rfl, hb5⟩; have HB5 := hid hb5; clear hb5)
        clear HS3 g8''
        obtain ⟨w6, hw6⟩ : ∃ w6, w5.alloc (.cells #[.int .i64 f.kind, .int .i64 f.blk, .int .i64 f.nth, .int .i64 f.keep] 60) = w6 := ⟨_, rfl⟩
        have HB6 : Hid (Below w2.heap.size w2 w6) := hid (by rw [← hw6]; exact (HB4.out.trans (HB5.out.mono HB4.out.size)).trans (((Below.refl _ w5).alloc (Nat.le_refl _) _).mono (Nat.le_trans HB4.out.size HB5.out.size)))
        rw [hw6]
        clear hw6
        have H6 := hid (H1.out.below HB6.out)
        have g9 : w6.cell? ⟨d.g, 9, none⟩ = some (.int .i64 D1.ck) := (H6.out.cell 9).trans rfl
        have f9 := H6.out.free 9
        have H7 := hid (H6.out.setCk (wrap64 (D1.ck + 1)))
        have U7 := hid ((U1.out.trans (Upd.of_new HB6.out) fun _ _ h => h).setCell (p := ⟨d.g, 9, none⟩) (fun _ => .inl rfl) (.int .i64 (wrap64 (D1.ck + 1))))
        go_wp2_with fail
        go_ret
        rw [HR.out]
        exact ⟨rfl, H7.out, U7.out⟩
      | none =>
        rw [hh3] at HS3 HR
        unfold hitV at HS3
        go_upto_region 18 with (go_at_call 67; refine HS3.out.mono ?_; rintro e w5 ⟨rfl, hb5⟩; have HB5 := hid hb5; clear hb5)
        clear HS3 g8''
        obtain ⟨w6, hw6⟩ : ∃ w6, w5.alloc (.cells #[.int .i64 0, .int .i64 0, .int .i64 0, .int .i64 0] 60) = w6 := ⟨_, rfl⟩
        have HB6 : Hid (Below w2.heap.size w2 w6) := hid (by rw [← hw6]; exact (HB4.out.trans (HB5.out.mono HB4.out.size)).trans (((Below.refl _ w5).alloc (Nat.le_refl _) _).mono (Nat.le_trans HB4.out.size HB5.out.size)))
        rw [hw6]
        clear hw6
        have H6 := hid (H1.out.below HB6.out)
        have hblk := block_any H6.out n (by rw [HSC.out]; exact hn)
        obtain ⟨cv, w7, hcp, h7, u7⟩ := copy_in (w := w6.drew) (H6.out.kept fun _ _ => rfl) (n := n) (by rw [HSC.out]; exact hn) 3 ab ao (D.unit * D.scr - n * D.unit) cap (l := l) (by rw [HU.out, HLL.out]; exact Nat.le_refl _) (HBY.out.upd (Upd.of_new (S := d.S) HB6.out).drew HAB.out.1 HAB.out.2)
        rw [HU.out, HLL.out] at hcp
        rw [HU.out, HSC.out] at hblk
        have HBK := hid hblk
        have H7 := hid h7
        have U7 := hid u7
        clear h7 u7 hblk
        go_wp2_with (first | (go_at_call 68; refine HBK.out.mono ?_; rintro e w8 ⟨rfl, rfl⟩) | (at_builtin; refine wpList_copy_run _ rfl (.tmp 96) (.tmp 97) 22 22 rfl _ _ rfl rfl hcp ?_))
        go_ret
        rw [HR.out]
        exact ⟨rfl, H7.out, (U1.out.trans (Upd.of_new HB6.out) fun _ _ h => h).trans ((Upd.refl _ _).drew.trans U7.out fun _ _ h => h) fun _ _ h => h⟩
end Go.Proofs.Ytkhejipcclpknaa
