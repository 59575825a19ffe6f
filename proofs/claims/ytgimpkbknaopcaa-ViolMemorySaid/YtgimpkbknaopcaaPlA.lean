/- A Top beside a slice of all that was put: what a Put and an append keep. No statement is proved here. -/
import Derived.Test.YtgimpkbknaopcaaVFirst
import Derived.Test.YtgimpkbknaopcaaWC
import Derived.Test.YtgimpkbknaopcaaVV
set_option linter.unusedVariables false
set_option linter.unusedSimpArgs false
namespace Go.Proofs.Ytgimpkbknaopcaa
open Go.RowKit Go.Shelf Go.Lib
open Go.Sort hiding Below

structure Pl (B : Nat) (w : World) (t lim : Nat) (hv va : Value) (all row : List Pt) : Prop where
  tp : Tp (fun _ => False) w t lim all.length hv row
  own : OwnV w va (all.map (·.v))
  fst : Firsts lim all row
  num : all.Pairwise (fun x y => x.num < y.num)
  top : ∀ x ∈ all, x.num ≤ all.length
  bt : B ≤ t
  bh : ∀ k, hv.ownBlock = some k → B ≤ k
  ba : ∀ k, va.ownBlock = some k → B ≤ k ∧ k ≠ t ∧ hv.ownBlock ≠ some k
/-- The blocks that a Put leaves. -/
def Rest (w : World) (t : Nat) (hv : Value) (k : Nat) : Prop := k < w.heap.size ∧ k ≠ t ∧ hv.ownBlock ≠ some k
theorem rest_fit (w : World) (t : Nat) (hv : Value) : Fit (Rest w t hv) w.heap.size := fun k hk => hk.1
section
variable {B t lim : Nat} {w w' : World} {hv va : Value} {all row : List Pt}
theorem Pl.below (h : Pl B w t lim hv va all row) (hb : Below w.heap.size w w') : Pl B w' t lim hv va all row :=
  ⟨h.tp.below hb, ownV_below h.own hb, h.fst, h.num, h.top, h.bt, h.bh, h.ba⟩
theorem Pl.tpk (h : Pl B w t lim hv va all row) : Tp (Rest w t hv) w t lim all.length hv row :=
  ⟨h.tp.ht, h.tp.own, h.tp.ne, fun hk => hk.2.1 rfl, fun k hk hr => hr.2.2 hk⟩
theorem Pl.len (h : Pl B w t lim hv va all row) : row.length ≤ lim := by rw [h.fst.len]; exact Nat.min_le_left _ _
theorem Pl.bel (h : Pl B w t lim hv va all row) (hB : B ≤ w.heap.size) (hb : Bel (Rest w t hv) w w') : Below B w w' :=
  hb.below fun k hk => ⟨by omega, by have := h.bt; omega, fun e => by have := h.bh k e; omega⟩
theorem Pl.rest (h : Pl B w t lim hv va all row) : ∀ k, va.ownBlock = some k → Rest w t hv k := fun k hk => ⟨ownV_lt h.own k hk, (h.ba k hk).2.1, (h.ba k hk).2.2⟩
theorem Pl.ownV (h : Pl B w t lim hv va all row) (hb : Bel (Rest w t hv) w w') : OwnV w' va (all.map (·.v)) :=
  ownV_kept h.own fun k hk => hb.block k (h.rest k hk)
theorem sorted_pw {n : Nat} {d : Array Pt} (hn : d.size = n) (h : SortedIn (ltOf cfP) 0 n d) (hnd : (d.toList.map (·.num)).Nodup) : d.toList.Pairwise ltP := by
  rw [List.pairwise_iff_getElem]
  intro i j hi hj hij
  have hi' : i < d.size := by simpa using hi
  have hj' : j < d.size := by simpa using hj
  have h1 := h i j (Nat.zero_le _) hij (by omega)
  have e1 : d[i]! = d.toList[i] := by simp [hi']
  have e2 : d[j]! = d.toList[j] := by simp [hj']
  rw [e1, e2] at h1
  have hne : (d.toList[i]).num ≠ (d.toList[j]).num := by
    have hp : (d.toList.map (·.num)).Pairwise (· ≠ ·) := hnd
    have := (List.pairwise_iff_getElem.1 hp) i j (by simpa using hi') (by simpa using hj') hij
    simpa using this
  rcases ltP_total hne with h2 | h2
  · exact h2
  · rw [(lt_iff _ _).2 h2] at h1
    cases h1
theorem pw_nodup {l : List Pt} (h : l.Pairwise (fun x y => x.num < y.num)) : (l.map (·.num)).Nodup := by
  show (l.map (·.num)).Pairwise (· ≠ ·)
  rw [List.pairwise_map]
  exact h.imp fun hlt => by omega
/-- What List tells is what First tells. -/
theorem list_first (hf : Firsts lim all row) (hn : all.Pairwise (fun x y => x.num < y.num)) {d : Array Pt} (hp : PermIn 0 row.length row.toArray d) (hs : SortedIn (ltOf cfP) 0 row.length d) : d.toList.map (·.v) = (sortV (all.map (·.v))).take lim := by
  obtain ⟨p1, p2⟩ := permIn_list rfl hp
  refine hf.first hn p1 (sorted_pw (n := row.length) (by rw [← Array.length_toList, p2]) hs ?_)
  obtain ⟨r, hr, _⟩ := hf.ex
  have h1 : ((row ++ r).map (·.num)).Nodup := (hr.map (·.num)).nodup_iff.2 (pw_nodup hn)
  have h2 : (row.map (·.num)).Nodup := by
    rw [List.map_append] at h1
    exact (List.nodup_append.1 h1).1
  exact (p1.map (·.num)).nodup_iff.2 h2
theorem Pl.list (h : Pl B w t lim hv va all row) {d : Array Pt} (hp : PermIn 0 row.length row.toArray d) (hs : SortedIn (ltOf cfP) 0 row.length d) : d.toList.map (·.v) = (sortV (all.map (·.v))).take lim := list_first h.fst h.num hp hs
/-- A Put, then the append. -/
theorem Pl.put (h : Pl B w t lim hv va all row) (hB : B ≤ w.heap.size) {w1 w2 w3 : World} {hv' va' : Value} {v : V} (hT : Tp (Rest w t hv) w1 t lim ((all.length : Int) + 1) hv' (putA lim row (Pt.mk v ((all.length : Int) + 1))))
    (hb : Bel (Rest w t hv) w w1) (hal : Below w1.heap.size w1 w2) (ho : OwnV w3 va' (all.map (·.v) ++ [v])) (hg : w2.grownBy w3 va.ownBlock) (hd : va'.ownBlock = va.ownBlock ∨ (va'.ownBlock = some w2.heap.size ∧ w2.grownBy w3 none)) :
    Pl B w3 t lim hv' va' (all ++ [Pt.mk v ((all.length : Int) + 1)]) (putA lim row (Pt.mk v ((all.length : Int) + 1))) ∧ Below B w w3 := by
  have hlen : (((all ++ [Pt.mk v ((all.length : Int) + 1)]).length : Nat) : Int) = (all.length : Int) + 1 := by simp
  have hne : va.ownBlock ≠ some t := fun e => (h.ba t e).2.1 rfl
  have hnh : ∀ k, hv'.ownBlock = some k → va.ownBlock ≠ some k := fun k hk e => hT.bv k hk (h.rest k e)
  have hk23 : ∀ k, k < w2.heap.size → va.ownBlock ≠ some k → w3.heap[k]? = w2.heap[k]? := fun k hk hn => hg.block k hk fun e => hn e.symm
  have hs1 := hb.size
  have hs2 := hal.size
  have ht1 := blk_lt hT.ht
  have hbB := h.bel hB hb
  have hbh : ∀ k, hv'.ownBlock = some k → B ≤ k := by
    intro k hk
    rcases Nat.lt_or_ge k B with hlt | hge
    · exact absurd ⟨by omega, by have := h.bt; omega, fun e => by have := h.bh k e; omega⟩ (hT.bv k hk)
    · exact hge
  refine ⟨⟨⟨?_, ?_, hT.ne, fun x => x, fun _ _ x => x⟩, ?_, ?_, ?_, ?_, h.bt, hbh, ?_⟩, ?_⟩
  · rw [hlen, hk23 t (by omega) hne, hal.block t ht1]
    exact hT.ht
  · refine own_kept hT.own fun k hk => ?_
    have hk1 := own_lt hT.own k hk
    rw [hk23 k (by omega) (hnh k hk), hal.block k hk1]
  · rw [List.map_append]
    exact ho
  · exact h.fst.put (pw_nodup h.num) fun x hx => by have := h.top x hx; simp; omega
  · rw [List.pairwise_append]
    refine ⟨h.num, List.pairwise_singleton _ _, fun x hx y hy => ?_⟩
    rw [List.mem_singleton] at hy
    subst hy
    have := h.top x hx
    show x.num < (all.length : Int) + 1
    omega
  · intro x hx
    rw [hlen]
    rcases List.mem_append.1 hx with hx | hx
    · have := h.top x hx
      omega
    · rw [List.mem_singleton] at hx
      subst hx
      exact Int.le_refl _
  · intro k hk
    rcases hd with h1 | ⟨h1, _⟩
    · rw [h1] at hk
      exact ⟨(h.ba k hk).1, (h.ba k hk).2.1, fun e => hnh k e hk⟩
    · rw [h1] at hk
      cases hk
      exact ⟨by omega, by omega, fun e => by have := own_lt hT.own _ e; omega⟩
  · refine hbB.trans ((hal.mono (by omega)).trans ((Upd.of_grown hg).below (by omega) fun k hk => (h.ba k hk).1))
theorem pl_new (hT : Tp (fun k => k < w.heap.size) w' t lim 0 (.slice none 0 0) []) (hB : B ≤ w.heap.size) : Pl B w' t lim (.slice none 0 0) (.slice none 0 0) [] [] :=
  ⟨⟨hT.ht, hT.own, hT.ne, fun x => x, fun _ _ x => x⟩, World.ownsRow_nil _ _ _ _, ⟨fun i hi => by simp at hi, by simp, [], by simp, fun x hx => by simp at hx⟩, List.Pairwise.nil, fun x hx => by simp at hx, by have := hT.bt; omega,
    fun k hk => by simp [Value.ownBlock] at hk, fun k hk => by simp [Value.ownBlock] at hk⟩
end
end Go.Proofs.Ytgimpkbknaopcaa
