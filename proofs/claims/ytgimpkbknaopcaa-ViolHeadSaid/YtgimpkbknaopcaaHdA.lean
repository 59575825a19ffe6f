/- Two Tops side by side; lists without ties. No statement is proved here. -/
import Derived.Test.YtgimpkbknaopcaaPlA
set_option linter.unusedVariables false
set_option linter.unusedSimpArgs false
namespace Go.Proofs.Ytgimpkbknaopcaa
open Go.RowKit Go.Shelf Go.Lib
open Go.Sort hiding Below

structure On (B : Nat) (w : World) (t lim : Nat) (hv : Value) (all row : List Pt) : Prop where
  tp : Tp (fun _ => False) w t lim all.length hv row
  fst : Firsts lim all row
  num : all.Pairwise (fun x y => x.num < y.num)
  top : ∀ x ∈ all, x.num ≤ all.length
  bt : B ≤ t
  bh : ∀ k, hv.ownBlock = some k → B ≤ k
def Apart (t t' : Nat) (hv hv' : Value) : Prop := t ≠ t' ∧ (∀ k, hv.ownBlock = some k → k ≠ t' ∧ hv'.ownBlock ≠ some k) ∧ (∀ k, hv'.ownBlock = some k → k ≠ t)
theorem Apart.symm {t t' : Nat} {hv hv' : Value} (h : Apart t t' hv hv') : Apart t' t hv' hv :=
  ⟨fun e => h.1 e.symm, fun k hk => ⟨h.2.2 k hk, fun e => (h.2.1 k e).2 hk⟩, fun k hk => (h.2.1 k hk).1⟩
section
variable {B t lim t' lim' : Nat} {w w' : World} {hv hv' : Value} {all row all' row' : List Pt}
theorem On.below (h : On B w t lim hv all row) (hb : Below w.heap.size w w') : On B w' t lim hv all row := ⟨h.tp.below hb, h.fst, h.num, h.top, h.bt, h.bh⟩
theorem On.tpk (h : On B w t lim hv all row) : Tp (Rest w t hv) w t lim all.length hv row :=
  ⟨h.tp.ht, h.tp.own, h.tp.ne, fun hk => hk.2.1 rfl, fun k hk hr => hr.2.2 hk⟩
theorem On.len (h : On B w t lim hv all row) : row.length ≤ lim := by rw [h.fst.len]; exact Nat.min_le_left _ _
theorem On.bel (h : On B w t lim hv all row) (hB : B ≤ w.heap.size) (hb : Bel (Rest w t hv) w w') : Below B w w' :=
  hb.below fun k hk => ⟨by omega, by have := h.bt; omega, fun e => by have := h.bh k e; omega⟩
theorem on_new (hT : Tp (fun k => k < w.heap.size) w' t lim 0 (.slice none 0 0) []) (hB : B ≤ w.heap.size) : On B w' t lim (.slice none 0 0) [] [] :=
  ⟨⟨hT.ht, hT.own, hT.ne, fun x => x, fun _ _ x => x⟩, ⟨fun i hi => by simp at hi, by simp, [], by simp, fun x hx => by simp at hx⟩, List.Pairwise.nil, fun x hx => by simp at hx, by have := hT.bt; omega,
    fun k hk => by simp [Value.ownBlock] at hk⟩
theorem On.put (h : On B w t lim hv all row) {w1 : World} {hv1 : Value} {v : V} (hT : Tp (Rest w t hv) w1 t lim ((all.length : Int) + 1) hv1 (putA lim row (Pt.mk v ((all.length : Int) + 1)))) (hB : B ≤ w.heap.size) :
    On B w1 t lim hv1 (all ++ [Pt.mk v ((all.length : Int) + 1)]) (putA lim row (Pt.mk v ((all.length : Int) + 1))) := by
  have hlen : (((all ++ [Pt.mk v ((all.length : Int) + 1)]).length : Nat) : Int) = (all.length : Int) + 1 := by simp
  refine ⟨⟨by rw [hlen]; exact hT.ht, hT.own, hT.ne, fun x => x, fun _ _ x => x⟩, ?_, ?_, ?_, h.bt, ?_⟩
  · exact h.fst.put (pw_nodup h.num) fun x hx => by have := h.top x hx; simp; omega
  · rw [List.pairwise_append]
    refine ⟨h.num, List.pairwise_singleton _ _, fun x hx y hy => ?_⟩
    rw [List.mem_singleton] at hy
    subst hy
    have := h.top x hx
    show x.num < (all.length : Int) + 1
    omega
  · intro x hx
    rw [hlen]
    rcases List.mem_append.1 hx with hx | hx
    · have := h.top x hx
      omega
    · rw [List.mem_singleton] at hx
      subst hx
      exact Int.le_refl _
  · intro k hk
    rcases Nat.lt_or_ge k B with hlt | hge
    · exact absurd ⟨by omega, by have := h.bt; omega, fun e => by have := h.bh k e; omega⟩ (hT.bv k hk)
    · exact hge
theorem On.other (h : On B w t lim hv all row) (h' : On B w t' lim' hv' all' row') (ha : Apart t t' hv hv') {w1 : World} (hb : Bel (Rest w t hv) w w1) : On B w1 t' lim' hv' all' row' := by
  have ht := blk_lt h'.tp.ht
  have k0 : Rest w t hv t' := ⟨ht, fun e => ha.1 e.symm, fun e => (ha.2.1 t' e).1 rfl⟩
  have k1 : ∀ k, hv'.ownBlock = some k → Rest w t hv k := fun k hk => ⟨own_lt h'.tp.own k hk, ha.2.2 k hk, fun e => (ha.2.1 k e).2 hk⟩
  exact ⟨⟨(hb.block t' k0).trans h'.tp.ht, own_kept h'.tp.own fun k hk => hb.block k (k1 k hk), h'.tp.ne, fun x => x, fun _ _ x => x⟩, h'.fst, h'.num, h'.top, h'.bt, h'.bh⟩
theorem Apart.put (ha : Apart t t' hv hv') (h' : On B w t' lim' hv' all' row') {w1 : World} {hv1 : Value} {tot : Int} {r : List Pt} (hT : Tp (Rest w t hv) w1 t lim tot hv1 r) : Apart t t' hv1 hv' := by
  have ht := blk_lt h'.tp.ht
  refine ⟨ha.1, fun k hk => ⟨fun e => ?_, fun e => ?_⟩, ha.2.2⟩
  · subst e
    exact hT.bv k hk ⟨ht, fun e => ha.1 e.symm, fun e => (ha.2.1 k e).1 rfl⟩
  · exact hT.bv k hk ⟨own_lt h'.tp.own k e, ha.2.2 k e, fun e' => (ha.2.1 k e').2 e⟩
end
theorem ltV_asymm {x y : V} (h : ltV x y) : ¬ ltV y x := by unfold ltV at *; omega
theorem eqV_symm {x y : V} (h : eqV x y) : eqV y x := by unfold eqV at *; omega
/-- Sorted, where nothing is tied. -/
theorem notie_pw {all : List Pt} (hn : all.Pairwise (fun x y => x.num < y.num)) (hF : (all.map (·.v)).Pairwise (fun x y => ¬ eqV x y)) :
    (sortV (all.map (·.v))).Pairwise ltV ∧ (sortV (all.map (·.v))).Perm (all.map (·.v)) := by
  have hs := sort_sorted _ all (Nat.le_refl _) hn
  have hp := sort_perm _ all (Nat.le_refl _)
  have hq : (sortP all).Pairwise (fun x y => ¬ eqV x.v y.v) := (hp.pairwise_iff (R := fun x y => ¬ eqV x.v y.v) (fun h e => h (eqV_symm e))).2 (List.pairwise_map.1 hF)
  rw [sort_map _ all (Nat.le_refl _)]
  refine ⟨?_, hp.map _⟩
  rw [List.pairwise_map]
  exact (hs.and hq).imp fun h => by
    rcases h.1 with h1 | h1
    · exact h1
    · exact absurd h1.1 h.2
theorem sort_notie {all all' : List Pt} {F : List V} (hn : all.Pairwise (fun x y => x.num < y.num)) (hn' : all'.Pairwise (fun x y => x.num < y.num)) (h1 : all.map (·.v) = F) (h2 : all'.map (·.v) = F.reverse)
    (hF : F.Pairwise (fun x y => ¬ eqV x y)) : sortV F.reverse = sortV F := by
  obtain ⟨a1, a2⟩ := notie_pw hn (by rw [h1]; exact hF)
  obtain ⟨b1, b2⟩ := notie_pw hn' (by rw [h2, List.pairwise_reverse]; exact hF.imp fun h e => h (eqV_symm e))
  rw [h1] at a1 a2
  rw [h2] at b1 b2
  exact List.Perm.eq_of_pairwise (le := ltV) (fun x y _ _ h k => absurd k (ltV_asymm h)) b1 a1 (b2.trans (F.reverse_perm.trans a2.symm))
theorem filter_step (l : List V) (i : Nat) (hi : i < l.length) : (l.take (i + 1)).filter validB = (l.take i).filter validB ++ (if validB l[i] = true then [l[i]] else []) := by
  rw [List.take_succ_eq_append_getElem hi, List.filter_append]
  congr 1
  by_cases h : validB l[i] = true
  · rw [if_pos h]; simp [h]
  · rw [if_neg h]; simp [h]
theorem filter_pw {l : List V} (h : ∀ i (hi : i < l.length) k (hk : k < i), ¬ (eqV (l[k]'(by omega)) l[i] ∧ validB l[i] = true)) : (l.filter validB).Pairwise (fun x y => ¬ eqV x y) := by
  have h1 : l.Pairwise (fun x y => ¬ (eqV x y ∧ validB y = true)) := by
    rw [List.pairwise_iff_getElem]
    intro k i hk hi hki
    exact h i hi k hki
  have h2 := h1.filter validB
  rw [List.pairwise_iff_getElem] at h2 ⊢
  intro i j hi hj hij e
  have hm := List.getElem_mem hj
  rw [List.mem_filter] at hm
  exact h2 i j hi hj hij ⟨e, hm.2⟩
end Go.Proofs.Ytgimpkbknaopcaa
