/- What Put keeps, plain: a heap that holds the first of all puts. No statement is proved here. -/
import Derived.Test.YtgimpkbknaopcaaVL
import Derived.Test.YtgimpkbknaopcaaWA
set_option linter.unusedVariables false
set_option linter.unusedSimpArgs false
namespace Go.Proofs.Ytgimpkbknaopcaa
open Go.Shelf Go.Lib
open Go.Sort hiding Below

def HeapL (l : List Pt) : Prop := ∀ i, i < l.length → Ok (ltOf cfP) 0 l.length l.toArray i
theorem permIn_list {n : Nat} {l : List Pt} {d : Array Pt} (hn : n = l.length) (h : PermIn 0 n l.toArray d) : d.toList.Perm l ∧ d.toList.length = l.length := by
  obtain ⟨h1, _, h3⟩ := h
  have hs : d.size = n := by rw [h1, hn]; simp
  have e1 : d.extract 0 n = d := by
    apply Array.ext
    · simp [hs]
    · intro i a b; simp
  have e2 : l.toArray.extract 0 n = l.toArray := by
    apply Array.ext
    · simp [hn]
    · intro i a b; simp
  rw [e1, e2] at h3
  exact ⟨h3, by rw [Array.length_toList, hs, hn]⟩
theorem heap_of {n : Nat} {d : Array Pt} (hn : d.size = n) (h : ∀ i, i < n → Ok (ltOf cfP) 0 n d i) : HeapL d.toList := by
  intro i hi
  have e : d.toList.length = n := by rw [Array.length_toList, hn]
  rw [e] at hi ⊢
  have : d.toList.toArray = d := by simp
  rw [this]
  exact h i hi
theorem heap_get {l : List Pt} (h : HeapL l) (i : Nat) (hi : i < l.length) (k : Nat) (hk : k = 2 * i + 1 ∨ k = 2 * i + 2) (hkn : k < l.length) : ltOf cfP l[i] l[k] = false := by
  have := h i hi k hk hkn
  simpa [hi, hkn] using this
theorem heap_max {l : List Pt} (h : HeapL l) (h0 : 0 < l.length) : ∀ x ∈ l, ¬ ltP l[0] x := by
  intro x hx hlt
  obtain ⟨i, hi, rfl⟩ := List.mem_iff_getElem.1 hx
  have := root_max swoP h i i (Nat.le_refl _) hi
  simp [h0, hi] at this
  rw [(lt_iff _ _).2 hlt] at this
  cases this

theorem put_push {lim : Int} {l : List Pt} {p : Pt} (h : HeapL l) (hl : (l.length : Int) < lim) : HeapL (putA lim l p) ∧ (putA lim l p).Perm (l ++ [p]) := by
  unfold putA
  rw [if_pos hl]
  have hn : (l ++ [p]).length = l.length + 1 := by simp
  obtain ⟨k1, k2⟩ := up_heap (l.length + 1) l.length (l ++ [p]).toArray (by simp) (.inr (by omega)) (fun i hi k hk hkn hkl => by
    have hk' : k < l.length := by omega
    have hi' : i < l.length := by omega
    have e1 : (l ++ [p]).toArray[i]! = l[i] := by simp [hi', List.getElem?_append_left hi']
    have e2 : (l ++ [p]).toArray[k]! = l[k] := by simp [hk', List.getElem?_append_left hk']
    rw [e1, e2]
    exact heap_get h i hi' k hk hk') (fun _ c hc hcn => by omega)
  exact ⟨heap_of (by rw [upA_size]; simp) k1, (permIn_list hn.symm k2).1⟩
theorem put_full {l : List Pt} {p : Pt} (h : HeapL l) (h0 : 0 < l.length) : HeapL (siftDown (ltOf cfP) l.length 0 0 (l.set 0 p).toArray).toList ∧ (siftDown (ltOf cfP) l.length 0 0 (l.set 0 p).toArray).toList.Perm (l.set 0 p) := by
  obtain ⟨k1, k2⟩ := sift swoP l.length 0 0 l.length 0 (l.set 0 p).toArray (by omega) (by simp) (Nat.le_refl _) (fun i _ hi hi0 k hk hkn => by
    have e1 : (l.set 0 p).toArray[0 + i]! = l[i] := by simp [hi, List.getElem_set, Ne.symm hi0]
    have e2 : (l.set 0 p).toArray[0 + k]! = l[k] := by
      have : k ≠ 0 := by omega
      simp [hkn, List.getElem_set, Ne.symm this]
    rw [e1, e2]
    exact heap_get h i hi k hk hkn) (fun q _ hq => by omega)
  exact ⟨heap_of (by rw [sift_sz l.length l.length 0 _ (by omega)]; simp) (fun i hi => k1 i (Nat.zero_le _) hi), (permIn_list (n := l.length) (by simp) (by simpa only [Nat.zero_add] using k2)).1⟩

/-- The row holds the first of all. -/
structure Firsts (lim : Nat) (all l : List Pt) : Prop where
  heap : HeapL l
  len : l.length = min lim all.length
  ex : ∃ r, (l ++ r).Perm all ∧ ∀ x ∈ l, ∀ y ∈ r, ltP x y
theorem Firsts.put {lim : Nat} {all l : List Pt} {p : Pt} (h : Firsts lim all l) (hnd : (all.map (·.num)).Nodup) (hp : ∀ x ∈ all, x.num ≠ p.num) : Firsts lim (all ++ [p]) (putA lim l p) := by
  obtain ⟨r, hr, hlt⟩ := h.ex
  have hlen := h.len
  have hrl : l.length + r.length = all.length := by rw [← List.length_append]; exact hr.length_eq
  by_cases hl : l.length < lim
  · have hl' : (l.length : Int) < (lim : Int) := by omega
    obtain ⟨k1, k2⟩ := put_push (p := p) h.heap hl'
    have hr0 : r = [] := List.eq_nil_of_length_eq_zero (by omega)
    subst hr0
    refine ⟨k1, by rw [k2.length_eq]; simp; omega, [], ?_, fun x _ y hy => by simp at hy⟩
    rw [List.append_nil] at hr ⊢
    exact k2.trans (List.Perm.append_right [p] hr)
  · have hll : l.length = lim := by omega
    have hneg : ¬ (l.length : Int) < (lim : Int) := by omega
    by_cases h0 : 0 < l.length
    · have hmax := heap_max h.heap h0
      have hmem : ∀ x ∈ l, x ∈ all := fun x hx => hr.subset (List.mem_append_left _ hx)
      obtain ⟨q, t, rfl⟩ : ∃ q t, l = q :: t := by
        cases l with
        | nil => simp at h0
        | cons q t => exact ⟨q, t, rfl⟩
      have hq0 : (q :: t)[0] = q := rfl
      have hnd2 : (((q :: t) ++ r).map (·.num)).Nodup := (hr.map (·.num)).nodup_iff.2 hnd
      have htq : ∀ x ∈ t, ltP x q := by
        intro x hx
        have hne : x.num ≠ q.num := by
          intro e
          simp only [List.cons_append, List.map_cons, List.nodup_cons] at hnd2
          exact hnd2.1 (List.mem_map.2 ⟨x, List.mem_append_left _ hx, e⟩)
        rcases ltP_total hne with h1 | h1
        · exact h1
        · exact absurd h1 (hmax x (List.mem_cons_of_mem _ hx))
      have hqp : q.num ≠ p.num := hp q (hmem q (by simp))
      unfold putA
      rw [if_neg hneg, dif_pos h0, hq0]
      by_cases hb : behindB q p = true
      · rw [if_pos hb]
        obtain ⟨k1, k2⟩ := put_full (p := p) h.heap h0
        have hpq := (behind_iff q p).1 hb
        refine ⟨k1, by rw [k2.length_eq]; simp at hlen ⊢; omega, q :: r, ?_, ?_⟩
        · refine (List.Perm.append_right _ k2).trans ?_
          have e : ((q :: t).set 0 p) ++ q :: r = p :: (t ++ q :: r) := rfl
          rw [e]
          have a1 : (t ++ q :: r).Perm (q :: (t ++ r)) := List.perm_middle
          have a2 : (p :: (t ++ q :: r)).Perm (p :: all) := (a1.trans hr).cons p
          exact a2.trans (List.perm_append_singleton p all).symm
        · intro x hx y hy
          have hx' : x ∈ (q :: t).set 0 p := k2.subset hx
          have hx2 : x = p ∨ x ∈ t := by simpa using hx'
          have hxq : ltP x q := by
            rcases hx2 with rfl | hx2
            · exact hpq
            · exact htq x hx2
          rcases List.mem_cons.1 hy with rfl | hy
          · exact hxq
          · exact ltP_trans hxq (hlt q (by simp) y hy)
      · rw [if_neg hb]
        have hqp2 : ltP q p := by
          rcases ltP_total hqp with h1 | h1
          · exact h1
          · exact absurd ((behind_iff q p).2 h1) hb
        refine ⟨h.heap, by simp at hlen ⊢; omega, r ++ [p], ?_, ?_⟩
        · rw [← List.append_assoc]
          exact List.Perm.append_right [p] hr
        · intro x hx y hy
          rcases List.mem_append.1 hy with hy | hy
          · exact hlt x hx y hy
          · have : y = p := by simpa using hy
            subst this
            rcases List.mem_cons.1 hx with rfl | hx
            · exact hqp2
            · exact ltP_trans (htq x hx) hqp2
    · have hl0 : l = [] := List.eq_nil_of_length_eq_zero (by omega)
      subst hl0
      unfold putA
      rw [if_neg hneg, dif_neg h0]
      refine ⟨h.heap, by simp at hll ⊢; omega, r ++ [p], ?_, fun x hx => by simp at hx⟩
      rw [← List.append_assoc]
      exact List.Perm.append_right [p] hr
end Go.Proofs.Ytgimpkbknaopcaa
