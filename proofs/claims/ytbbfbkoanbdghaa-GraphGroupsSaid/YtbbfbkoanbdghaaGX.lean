/- A graph's rows, each appended to. No statement is proved here. -/
import Derived.Test.YtbbfbkoanbdghaaGE
set_option linter.unusedVariables false
set_option linter.unusedSimpArgs false
namespace Go.Proofs.Ytbbfbkoanbdghaa
open Go.RowKit Go.Shelf Go.Lib
open Go.Sort hiding Below

/-- A graph whose map and rows are told apart. -/
structure Gx (B : Nat) (w : World) (g N : Nat) (es : List E) (mb ob bb : Nat) (oc bc : Array Value) (vs : Nat → Value) (ls : Nat → List E) : Prop where
  hg : w.heap[g]? = some (.cells #[.int .i64 (N : Int), .map (some mb), .slice (some ⟨ob, 0, none⟩) N N, .slice (some ⟨bb, 0, none⟩) N N] 65 (0, 0))
  map : GMap w mb es
  ho : w.heap[ob]? = some (.cells oc 30 (0, 0))
  hb : w.heap[bb]? = some (.cells bc 30 (0, 0))
  so : oc.size = N
  sb : bc.size = N
  co : ∀ i, i < N → oc[i]? = some (vs i)
  cb : ∀ i, i < N → bc[i]? = some (vs (N + i))
  row : ∀ i, i < 2 * N → OwnE w (vs i) (ls i)
  ap : g ≠ mb ∧ g ≠ ob ∧ g ≠ bb ∧ mb ≠ ob ∧ mb ≠ bb ∧ ob ≠ bb
  rows : ∀ i, i < 2 * N → ∀ k, (vs i).ownBlock = some k → k ≠ g ∧ k ≠ mb ∧ k ≠ ob ∧ k ≠ bb ∧ B ≤ k
  pair : ∀ i j, i < 2 * N → j < 2 * N → i ≠ j → ∀ k, (vs i).ownBlock = some k → (vs j).ownBlock ≠ some k
  base : B ≤ g ∧ B ≤ mb ∧ B ≤ ob ∧ B ≤ bb
def upd {α : Type} (f : Nat → α) (i : Nat) (a : α) (j : Nat) : α := if j = i then a else f j
theorem upd_same {α : Type} (f : Nat → α) (i : Nat) (a : α) : upd f i a i = a := if_pos rfl
theorem upd_other {α : Type} {f : Nat → α} {i j : Nat} {a : α} (h : j ≠ i) : upd f i a j = f j := if_neg h
section
variable {B : Nat} {w w1 w2 : World} {g N : Nat} {es : List E} {mb ob bb : Nat} {oc bc : Array Value} {vs : Nat → Value} {ls : Nat → List E}
theorem Gx.below (h : Gx B w g N es mb ob bb oc bc vs ls) (hb : Below w.heap.size w w1) : Gx B w1 g N es mb ob bb oc bc vs ls :=
  ⟨(hb.block g (blk_lt h.hg)).trans h.hg, h.map.kept (hb.block mb h.map.lt), (hb.block ob (blk_lt h.ho)).trans h.ho, (hb.block bb (blk_lt h.hb)).trans h.hb, h.so, h.sb, h.co, h.cb, fun i hi => ownE_below (h.row i hi) hb, h.ap, h.rows, h.pair, h.base⟩
theorem Gr.gx (h : Gr B w g N es mb ob bb oc bc vs) {es' : List E} (hm : GMap w1 mb es') (hg : w.grownBy w1 (some mb)) : Gx B w1 g N es' mb ob bb oc bc vs (rowE es N) ∧ Below B w w1 := by
  have hk : ∀ k, k < w.heap.size → k ≠ mb → w1.heap[k]? = w.heap[k]? := fun k hk hn => hg.block k hk (fun e => hn (by cases e; rfl))
  refine ⟨⟨(hk g (blk_lt h.hg) h.ap.1).trans h.hg, hm, (hk ob (blk_lt h.ho) h.ap.2.2.2.1.symm).trans h.ho, (hk bb (blk_lt h.hb) h.ap.2.2.2.2.1.symm).trans h.hb, h.so, h.sb, h.co, h.cb, fun i hi => ownE_kept (h.row i hi) fun k e => hk k (ownE_lt (h.row i hi) k e) (h.rows i hi k e).2.1, h.ap, h.rows, h.pair, h.base⟩, ?_⟩
  exact (Upd.of_grown hg).below (by have := h.map.lt; have := h.base.2.1; omega) (fun k e => by cases e; exact h.base.2.1)

theorem Gx.appOut (h : Gx B w g N es mb ob bb oc bc vs ls) {i : Nat} (hi : i < N) {x : E} {v' : Value} (hb : Below w.heap.size w w1) (ho : OwnE w2 v' (ls (i) ++ [x])) (hgr : w1.grownBy w2 (vs (i)).ownBlock)
    (hd : v'.ownBlock = (vs (i)).ownBlock ∨ (v'.ownBlock = some w1.heap.size ∧ w1.grownBy w2 none)) (hB : B ≤ w.heap.size) :
    Gx B (w2.setCell ⟨ob, i, none⟩ v') g N es mb ob bb (oc.setIfInBounds i v') bc (upd vs (i) v') (upd ls (i) (ls (i) ++ [x])) ∧ Below B w (w2.setCell ⟨ob, i, none⟩ v') := by
  have hI : i < 2 * N := by omega
  have hne : ∀ k, k = g ∨ k = mb ∨ k = ob ∨ k = bb → some k ≠ (vs (i)).ownBlock := fun k hk e => by
    have := h.rows (i) hI k e.symm
    omega
  have h12 : ∀ k, k < w.heap.size → some k ≠ (vs (i)).ownBlock → w2.heap[k]? = w.heap[k]? := fun k hk hn => (hgr.block k (Nat.lt_of_lt_of_le hk hb.size) hn).trans (hb.block k hk)
  have hs : ∀ k, k ≠ ob → (w2.setCell ⟨ob, i, none⟩ v').heap[k]? = w2.heap[k]? := fun k hk => Below.heap_setCell w2 _ v' k hk
  have hT := (h12 ob (blk_lt h.ho) (hne ob (by simp))).trans h.ho
  have hv : ∀ k, v'.ownBlock = some k → (vs (i)).ownBlock = some k ∨ w.heap.size ≤ k := fun k hk => by
    rcases hd with h1 | ⟨h1, _⟩
    · exact .inl (h1 ▸ hk)
    · rw [h1] at hk
      cases hk
      exact .inr hb.size
  have a1 := blk_lt h.hg
  have a2 := h.map.lt
  have a3 := blk_lt h.ho
  have a4 := blk_lt h.hb
  have hvn : ∀ k, v'.ownBlock = some k → k ≠ g ∧ k ≠ mb ∧ k ≠ ob ∧ k ≠ bb ∧ B ≤ k := fun k hk => by
    rcases hv k hk with h1 | h1
    · exact h.rows (i) hI k h1
    · omega
  have apx := h.ap
  refine ⟨⟨?_, ?_, ?_, ?_, ?_, ?_, ?_, ?_, ?_, h.ap, ?_, ?_, h.base⟩, ?_⟩
  · rw [hs g (by omega), h12 g a1 (hne g (by simp))]
    exact h.hg
  · refine h.map.kept ?_
    rw [hs mb (by omega), h12 mb a2 (hne mb (by simp))]
  · exact heap_setCell_same w2 ob i _ _ v' hT
  · rw [hs bb (by omega), h12 bb a4 (hne bb (by simp))]; exact h.hb
  · rw [Array.size_setIfInBounds]; exact h.so
  · exact h.sb
  · intro j hj
    rw [Array.getElem?_setIfInBounds]
    by_cases e : i = j
    · subst e
      rw [if_pos rfl, if_pos (by rw [h.so]; exact hi), upd_same]
    · rw [if_neg e, upd_other (by omega)]
      exact h.co j hj
  · intro j hj
    rw [upd_other (by omega)]
    exact h.cb j hj
  · intro j hj
    by_cases e : j = i
    · subst e
      rw [upd_same, upd_same]
      exact ownE_kept ho fun k hk => hs k (by have := hvn k hk; omega)
    · rw [upd_other e, upd_other e]
      refine ownE_kept (h.row j hj) fun k hk => ?_
      rw [hs k (by have := h.rows j hj k hk; omega), h12 k (ownE_lt (h.row j hj) k hk) (fun e' => h.pair j (i) hj hI e k hk e'.symm)]
  · intro j hj k hk
    by_cases e : j = i
    · subst e
      rw [upd_same] at hk
      exact hvn k hk
    · rw [upd_other e] at hk
      exact h.rows j hj k hk
  · intro a b ha hb' hab k hk hk'
    by_cases ea : a = i
    · subst ea
      rw [upd_same] at hk
      rw [upd_other (fun e => hab e.symm)] at hk'
      rcases hv k hk with h1 | h1
      · exact h.pair _ _ hI hb' hab k h1 hk'
      · have := ownE_lt (h.row b hb') k hk'
        omega
    · rw [upd_other ea] at hk
      by_cases eb : b = i
      · subst eb
        rw [upd_same] at hk'
        rcases hv k hk' with h1 | h1
        · exact h.pair _ _ ha hI hab k hk h1
        · have := ownE_lt (h.row a ha) k hk
          omega
      · rw [upd_other eb] at hk'
        exact h.pair a b ha hb' hab k hk hk'
  · refine ((hb.mono hB).trans ((Upd.of_grown hgr).below (Nat.le_trans hB hb.size) fun k e => (h.rows (i) hI k e).2.2.2.2)).trans ?_
    exact ((Upd.refl (fun k => k = ob) w2).setCell (fun _ => rfl) v').below (by have := hb.size; have := hgr.size; omega) (fun k e => by subst e; have := h.base; omega)

theorem Gx.appBack (h : Gx B w g N es mb ob bb oc bc vs ls) {i : Nat} (hi : i < N) {x : E} {v' : Value} (hb : Below w.heap.size w w1) (ho : OwnE w2 v' (ls (N + i) ++ [x])) (hgr : w1.grownBy w2 (vs (N + i)).ownBlock)
    (hd : v'.ownBlock = (vs (N + i)).ownBlock ∨ (v'.ownBlock = some w1.heap.size ∧ w1.grownBy w2 none)) (hB : B ≤ w.heap.size) :
    Gx B (w2.setCell ⟨bb, i, none⟩ v') g N es mb ob bb oc (bc.setIfInBounds i v') (upd vs (N + i) v') (upd ls (N + i) (ls (N + i) ++ [x])) ∧ Below B w (w2.setCell ⟨bb, i, none⟩ v') := by
  have hI : N + i < 2 * N := by omega
  have hne : ∀ k, k = g ∨ k = mb ∨ k = ob ∨ k = bb → some k ≠ (vs (N + i)).ownBlock := fun k hk e => by
    have := h.rows (N + i) hI k e.symm
    omega
  have h12 : ∀ k, k < w.heap.size → some k ≠ (vs (N + i)).ownBlock → w2.heap[k]? = w.heap[k]? := fun k hk hn => (hgr.block k (Nat.lt_of_lt_of_le hk hb.size) hn).trans (hb.block k hk)
  have hs : ∀ k, k ≠ bb → (w2.setCell ⟨bb, i, none⟩ v').heap[k]? = w2.heap[k]? := fun k hk => Below.heap_setCell w2 _ v' k hk
  have hT := (h12 bb (blk_lt h.hb) (hne bb (by simp))).trans h.hb
  have hv : ∀ k, v'.ownBlock = some k → (vs (N + i)).ownBlock = some k ∨ w.heap.size ≤ k := fun k hk => by
    rcases hd with h1 | ⟨h1, _⟩
    · exact .inl (h1 ▸ hk)
    · rw [h1] at hk
      cases hk
      exact .inr hb.size
  have a1 := blk_lt h.hg
  have a2 := h.map.lt
  have a3 := blk_lt h.ho
  have a4 := blk_lt h.hb
  have hvn : ∀ k, v'.ownBlock = some k → k ≠ g ∧ k ≠ mb ∧ k ≠ ob ∧ k ≠ bb ∧ B ≤ k := fun k hk => by
    rcases hv k hk with h1 | h1
    · exact h.rows (N + i) hI k h1
    · omega
  have apx := h.ap
  refine ⟨⟨?_, ?_, ?_, ?_, ?_, ?_, ?_, ?_, ?_, h.ap, ?_, ?_, h.base⟩, ?_⟩
  · rw [hs g (by omega), h12 g a1 (hne g (by simp))]
    exact h.hg
  · refine h.map.kept ?_
    rw [hs mb (by omega), h12 mb a2 (hne mb (by simp))]
  · rw [hs ob (by omega), h12 ob a3 (hne ob (by simp))]; exact h.ho
  · exact heap_setCell_same w2 bb i _ _ v' hT
  · exact h.so
  · rw [Array.size_setIfInBounds]; exact h.sb
  · intro j hj
    rw [upd_other (by omega)]
    exact h.co j hj
  · intro j hj
    rw [Array.getElem?_setIfInBounds]
    by_cases e : i = j
    · subst e
      rw [if_pos rfl, if_pos (by rw [h.sb]; exact hi), upd_same]
    · rw [if_neg e, upd_other (by omega)]
      exact h.cb j hj
  · intro j hj
    by_cases e : j = N + i
    · subst e
      rw [upd_same, upd_same]
      exact ownE_kept ho fun k hk => hs k (by have := hvn k hk; omega)
    · rw [upd_other e, upd_other e]
      refine ownE_kept (h.row j hj) fun k hk => ?_
      rw [hs k (by have := h.rows j hj k hk; omega), h12 k (ownE_lt (h.row j hj) k hk) (fun e' => h.pair j (N + i) hj hI e k hk e'.symm)]
  · intro j hj k hk
    by_cases e : j = N + i
    · subst e
      rw [upd_same] at hk
      exact hvn k hk
    · rw [upd_other e] at hk
      exact h.rows j hj k hk
  · intro a b ha hb' hab k hk hk'
    by_cases ea : a = N + i
    · subst ea
      rw [upd_same] at hk
      rw [upd_other (fun e => hab e.symm)] at hk'
      rcases hv k hk with h1 | h1
      · exact h.pair _ _ hI hb' hab k h1 hk'
      · have := ownE_lt (h.row b hb') k hk'
        omega
    · rw [upd_other ea] at hk
      by_cases eb : b = N + i
      · subst eb
        rw [upd_same] at hk'
        rcases hv k hk' with h1 | h1
        · exact h.pair _ _ ha hI hab k hk h1
        · have := ownE_lt (h.row a ha) k hk
          omega
      · rw [upd_other eb] at hk'
        exact h.pair a b ha hb' hab k hk hk'
  · refine ((hb.mono hB).trans ((Upd.of_grown hgr).below (Nat.le_trans hB hb.size) fun k e => (h.rows (N + i) hI k e).2.2.2.2)).trans ?_
    exact ((Upd.refl (fun k => k = bb) w2).setCell (fun _ => rfl) v').below (by have := hb.size; have := hgr.size; omega) (fun k e => by subst e; have := h.base; omega)
end
theorem rowE_add (es : List E) (N f t : Nat) (lab : Int) (hf : f < N) (i : Nat) (hi : i < 2 * N) : rowE (es ++ [⟨(f : Int), (t : Int), lab⟩]) N i = upd (upd (rowE es N) f (rowE es N f ++ [⟨(f : Int), (t : Int), lab⟩])) (N + t) (upd (rowE es N) f (rowE es N f ++ [⟨(f : Int), (t : Int), lab⟩]) (N + t) ++ [⟨(f : Int), (t : Int), lab⟩]) i := by
  have hNt : N + t ≠ f := by omega
  rw [upd_other hNt]
  by_cases h1 : i = N + t
  · subst h1
    rw [upd_same]
    unfold rowE
    rw [if_neg (by omega), if_neg (by omega), List.filter_append]
    congr 1
    simp
  · rw [upd_other h1]
    by_cases h2 : i = f
    · subst h2
      rw [upd_same]
      unfold rowE
      rw [if_pos hf, if_pos hf, List.filter_append]
      congr 1
      simp
    · rw [upd_other h2]
      unfold rowE
      by_cases h3 : i < N
      · rw [if_pos h3, if_pos h3, List.filter_append]
        have : ([⟨(f : Int), (t : Int), lab⟩] : List E).filter (fun e => e.frm == (i : Int)) = [] := by simp; omega
        rw [this, List.append_nil]
      · rw [if_neg h3, if_neg h3, List.filter_append]
        have : ([⟨(f : Int), (t : Int), lab⟩] : List E).filter (fun e => e.to == ((i - N : Nat) : Int)) = [] := by simp; omega
        rw [this, List.append_nil]
end Go.Proofs.Ytbbfbkoanbdghaa
