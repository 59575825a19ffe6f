/- An order along the edges, node by node, as plain data. No statement is proved here. -/
import Derived.Test.YtbbfbkoanbdghaaGR
set_option linter.unusedVariables false
set_option linter.unusedSimpArgs false
namespace Go.Proofs.Ytbbfbkoanbdghaa
open Go.RowKit

/-- How many of these edges go into a node. -/
def cntTo (l : List E) (mask : Int) (y : Nat) : Nat := (l.filter (fun e => inM e.lab mask && e.to == (y : Int))).length
/-- The edges from the nodes that are left. -/
def live (es : List E) (out : List Nat) : List E := es.filter (fun e => !out.any (fun u => e.frm == (u : Int)))
/-- A node that may come next. -/
def Free (es : List E) (mask : Int) (out : List Nat) (x : Nat) : Prop := x ∉ out ∧ ∀ e ∈ es, inM e.lab mask = true → e.to = (x : Int) → ∃ u ∈ out, e.frm = (u : Int)
/-- Each node is the least that may come next. -/
def Kn (es : List E) (N : Nat) (mask : Int) (out : List Nat) : Prop := ∀ j (hj : j < out.length), out[j] < N ∧ Free es mask (out.take j) out[j] ∧ ∀ y, y < out[j] → ¬ Free es mask (out.take j) y
theorem mem_live {es : List E} {out : List Nat} {e : E} : e ∈ live es out ↔ e ∈ es ∧ ¬ ∃ u ∈ out, e.frm = (u : Int) := by
  unfold live
  rw [List.mem_filter]
  constructor
  · rintro ⟨h1, h2⟩
    refine ⟨h1, fun ⟨u, hu, he⟩ => ?_⟩
    rw [Bool.not_eq_true', List.any_eq_false] at h2
    exact h2 u hu (by simpa using he)
  · rintro ⟨h1, h2⟩
    refine ⟨h1, ?_⟩
    rw [Bool.not_eq_true', List.any_eq_false]
    exact fun u hu h => h2 ⟨u, hu, by simpa using h⟩
theorem cntTo_zero {l : List E} {mask : Int} {y : Nat} : cntTo l mask y = 0 ↔ ∀ e ∈ l, inM e.lab mask = true → e.to ≠ (y : Int) := by
  unfold cntTo
  rw [List.length_eq_zero_iff, List.filter_eq_nil_iff]
  constructor
  · intro h e he h1 h2
    exact h e he (by simp [h1, h2])
  · intro h e he h1
    rw [Bool.and_eq_true] at h1
    exact h e he h1.1 (by simpa using h1.2)
theorem cntTo_le (l : List E) (mask : Int) (y : Nat) : cntTo l mask y ≤ l.length := List.length_filter_le _ _
theorem cntTo_cons (e : E) (l : List E) (mask : Int) (y : Nat) : cntTo (e :: l) mask y = (if inM e.lab mask = true ∧ e.to = (y : Int) then 1 else 0) + cntTo l mask y := by
  unfold cntTo
  rw [List.filter_cons]
  by_cases h : inM e.lab mask = true ∧ e.to = (y : Int)
  · rw [if_pos h, if_pos (by simp [h.1, h.2]), List.length_cons]
    omega
  · rw [if_neg h, if_neg (fun h' => h (by
      rw [Bool.and_eq_true] at h'
      exact ⟨h'.1, by simpa using h'.2⟩))]
    omega
theorem cntTo_append (a b : List E) (mask : Int) (y : Nat) : cntTo (a ++ b) mask y = cntTo a mask y + cntTo b mask y := by
  unfold cntTo
  rw [List.filter_append, List.length_append]
theorem cntTo_perm {a b : List E} (h : a.Perm b) (mask : Int) (y : Nat) : cntTo a mask y = cntTo b mask y := (h.filter _).length_eq
theorem live_nil (es : List E) : live es [] = es := by
  unfold live
  rw [List.filter_eq_self]
  exact fun e _ => rfl
theorem free_iff {es : List E} {mask : Int} {out : List Nat} {x : Nat} (hx : x ∉ out) : Free es mask out x ↔ cntTo (live es out) mask x = 0 := by
  rw [cntTo_zero]
  constructor
  · rintro ⟨_, h⟩ e he h1 h2
    have := mem_live.1 he
    exact this.2 (h e this.1 h1 h2)
  · intro h
    refine ⟨hx, fun e he h1 h2 => ?_⟩
    exact Classical.byContradiction fun hn => h e (mem_live.2 ⟨he, hn⟩) h1 h2
theorem cnt_split (es : List E) (N : Nat) (mask : Int) (out : List Nat) (x : Nat) (hx : x ∉ out) (hN : x < N) (y : Nat) :
    cntTo (live es out) mask y = cntTo (live es (out ++ [x])) mask y + cntTo (rowE es N x) mask y := by
  unfold rowE
  rw [if_pos hN]
  induction es with
  | nil => rfl
  | cons e es ih =>
    have key : ∀ a : List Nat, live (e :: es) a = if (!a.any (fun u => e.frm == (u : Int))) = true then e :: live es a else live es a := fun a => List.filter_cons
    rw [key, key, List.filter_cons]
    by_cases hf : e.frm = (x : Int)
    · have h1 : (!out.any (fun u => e.frm == (u : Int))) = true := by
        rw [Bool.not_eq_true', List.any_eq_false]
        intro u hu h
        have : e.frm = (u : Int) := by simpa using h
        have : u = x := by omega
        exact hx (this ▸ hu)
      have h2 : ¬ (!(out ++ [x]).any (fun u => e.frm == (u : Int))) = true := by
        simp [hf]
      rw [if_pos h1, if_neg h2, if_pos (by simpa using hf), cntTo_cons, cntTo_cons, ih]
      omega
    · have h2 : (out ++ [x]).any (fun u => e.frm == (u : Int)) = out.any (fun u => e.frm == (u : Int)) := by
        rw [List.any_append]
        simp [hf]
      rw [h2, if_neg (show ¬ (e.frm == (x : Int)) = true by simpa using hf)]
      split
      · rw [cntTo_cons, cntTo_cons, ih]
        omega
      · exact ih
section
variable {es : List E} {N : Nat} {mask : Int} {out : List Nat} {x : Nat}
theorem Kn.nil : Kn es N mask [] := fun j hj => by simp at hj
theorem Kn.snoc (h : Kn es N mask out) (hx : x < N) (hf : Free es mask out x) (hl : ∀ y, y < x → ¬ Free es mask out y) : Kn es N mask (out ++ [x]) := by
  intro j hj
  by_cases h1 : j < out.length
  · rw [List.getElem_append_left h1, List.take_append_of_le_length (by omega)]
    exact h j h1
  · have hj2 : j = out.length := by simp at hj; omega
    subst hj2
    have e1 : (out ++ [x])[out.length] = x := by simp
    have e2 : (out ++ [x]).take out.length = out := by simp
    rw [e1, e2]
    exact ⟨hx, hf, hl⟩
theorem Kn.lt (h : Kn es N mask out) : ∀ y ∈ out, y < N := fun y hy => by
  obtain ⟨j, hj, rfl⟩ := List.getElem_of_mem hy
  exact (h j hj).1
theorem Kn.nodup (h : Kn es N mask out) : out.Nodup := by
  rw [List.nodup_iff_pairwise_ne, List.pairwise_iff_getElem]
  intro i j hi hj hij he
  refine (h j hj).2.1.1 ?_
  rw [← he]
  exact List.mem_take_iff_getElem.2 ⟨i, by omega, rfl⟩
theorem Kn.len (h : Kn es N mask out) : out.length ≤ N := nodup_le N out h.nodup h.lt
/-- An edge goes forward. -/
theorem Kn.edge (h : Kn es N mask out) {e : E} (he : e ∈ es) (hm : inM e.lab mask = true) {j : Nat} (hj : j < out.length) (ht : e.to = (out[j] : Int)) : ∃ i, i < j ∧ ∃ hi : i < out.length, e.frm = (out[i] : Int) := by
  obtain ⟨u, hu, hf⟩ := (h j hj).2.1.2 e he hm ht
  obtain ⟨i, hi, rfl⟩ := List.mem_take_iff_getElem.1 hu
  exact ⟨i, by omega, by omega, hf⟩
/-- An edge from the node that comes next goes to no node that came, nor to itself. -/
theorem Kn.fresh (h : Kn es N mask out) (hf : Free es mask out x) {e : E} (he : e ∈ es) (hm : inM e.lab mask = true) (hx : e.frm = (x : Int)) {y : Nat} (hy : e.to = (y : Int)) : y ∉ out ++ [x] := by
  intro hmem
  rcases List.mem_append.1 hmem with h1 | h1
  · obtain ⟨j, hj, rfl⟩ := List.getElem_of_mem h1
    obtain ⟨i, hi, hi2, hfi⟩ := h.edge he hm hj hy
    have : x = out[i] := by omega
    exact hf.1 (this ▸ List.getElem_mem _)
  · have : y = x := by simpa using h1
    subst this
    obtain ⟨u, hu, hfu⟩ := hf.2 e he hm hy
    have : y = u := by omega
    exact hf.1 (this ▸ hu)
/-- Where none may come next, none of those that are left is without one ahead of it that is left. -/
theorem stuck (hok : ∀ e ∈ es, okE N e) (hs : ∀ y, y < N → ¬ Free es mask out y) : ∀ y, y < N → y ∉ out → ∃ u, u < N ∧ u ∉ out ∧ Edge es mask u y := by
  intro y hy hn
  have h1 := hs y hy
  obtain ⟨e, h2⟩ := Classical.not_forall.1 (fun h => h1 ⟨hn, h⟩)
  obtain ⟨he, h3⟩ := Classical.not_imp.1 h2
  obtain ⟨hm, h4⟩ := Classical.not_imp.1 h3
  obtain ⟨ht, h5⟩ := Classical.not_imp.1 h4
  obtain ⟨k1, k2, _⟩ := hok e he
  obtain ⟨u, hu⟩ := Int.eq_ofNat_of_zero_le k1
  exact ⟨u, by omega, fun hm' => h5 ⟨u, hm', hu⟩, e, he, hu, ht, hm⟩
end
/-- A way of a length: what IsDist sees. -/
theorem IsDist.chain {es : List E} {N t : Nat} {mask : Int} {D : Nat → Int} (h : IsDist es N mask t D) (f : Nat → Nat) (hlt : ∀ i, f i < N) (hE : ∀ i, Edge es mask (f (i + 1)) (f i)) {k : Nat} (h0 : 0 ≤ D (f k)) : ∀ i, 0 ≤ D (f (k + i)) := by
  intro i
  induction i with
  | zero => exact h0
  | succ i ih => exact (h.fwd _ _ (hlt _) (hlt _) (hE _) ih).1
/-- A chain without end comes round. -/
theorem loop_way {es : List E} {N : Nat} {mask : Int} (hD : ∀ t, t < N → ∃ D, IsDist es N mask t D) (f : Nat → Nat) (hlt : ∀ i, f i < N) (hE : ∀ i, Edge es mask (f (i + 1)) (f i)) : ∃ a, a < N ∧ Way es N mask a a := by
  have hr : ∃ i j, i < j ∧ f i = f j := by
    refine Classical.byContradiction fun hn => ?_
    have := nodup_le N ((List.range (N + 1)).map f) (by
      rw [List.nodup_iff_pairwise_ne, List.pairwise_iff_getElem]
      intro i j hi hj hij he
      simp only [List.getElem_map, List.getElem_range] at he
      exact hn ⟨i, j, hij, he⟩) (fun x hx => by
      obtain ⟨i, _, rfl⟩ := List.mem_map.1 hx
      exact hlt i)
    simp at this
    omega
  obtain ⟨i, j, hij, he⟩ := hr
  obtain ⟨D, hd⟩ := hD (f i) (hlt i)
  refine ⟨f j, hlt j, ?_⟩
  rw [← he]
  obtain ⟨m, rfl⟩ : ∃ m, j = i + m + 1 := ⟨j - i - 1, by omega⟩
  have h1 := hd.chain f hlt hE (k := i) (by rw [hd.z]; omega) m
  obtain ⟨e, he1, he2, he3, he4⟩ := hE (i + m)
  exact ⟨D, hd, e, he1, by rw [he2, he], he4, by rw [he3]; simpa using h1⟩
/-- Where none may come next, and some are left, a node reaches itself. -/
theorem stuck_way {es : List E} {N : Nat} {mask : Int} {out : List Nat} (hD : ∀ t, t < N → ∃ D, IsDist es N mask t D) (hok : ∀ e ∈ es, okE N e) (hk : Kn es N mask out) (hl : out.length < N) (hs : ∀ y, y < N → ¬ Free es mask out y) : ∃ a, a < N ∧ Way es N mask a a := by
  have h0 : ∃ y, y < N ∧ y ∉ out := by
    refine Classical.byContradiction fun hn => ?_
    have hall : ∀ y, y < N → y ∈ out := fun y hy => Classical.byContradiction fun h => hn ⟨y, hy, h⟩
    have := (List.nodup_range (n := N)).length_le_of_subset (l₂ := out) (fun y hy => hall y (List.mem_range.1 hy))
    simp at this
    omega
  obtain ⟨y0, hy0, hn0⟩ := h0
  have hst := stuck hok hs
  let nx : { y : Nat // y < N ∧ y ∉ out } → { y : Nat // y < N ∧ y ∉ out } := fun y => ⟨Classical.choose (hst y.1 y.2.1 y.2.2), (Classical.choose_spec (hst y.1 y.2.1 y.2.2)).1, (Classical.choose_spec (hst y.1 y.2.1 y.2.2)).2.1⟩
  let F : Nat → { y : Nat // y < N ∧ y ∉ out } := fun i => Nat.rec ⟨y0, hy0, hn0⟩ (fun _ y => nx y) i
  exact loop_way hD (fun i => (F i).1) (fun i => (F i).2.1) fun i => (Classical.choose_spec (hst (F i).1 (F i).2.1 (F i).2.2)).2.2
/-- Where all came, no node reaches itself. -/
theorem full_noway {es : List E} {N : Nat} {mask : Int} {out : List Nat} (hok : ∀ e ∈ es, okE N e) (hk : Kn es N mask out) (hl : out.length = N) : ∀ a, a < N → ¬ Way es N mask a a := by
  have hall : ∀ y, y < N → ∃ j, ∃ hj : j < out.length, out[j] = y := by
    intro y hy
    refine Classical.byContradiction fun hn => ?_
    have := nodup_le N (y :: out) (List.nodup_cons.2 ⟨fun hm => by obtain ⟨j, hj, he⟩ := List.getElem_of_mem hm; exact hn ⟨j, hj, he⟩, hk.nodup⟩) (fun z hz => by
      rcases List.mem_cons.1 hz with rfl | hz
      · exact hy
      · exact hk.lt z hz)
    simp at this
    omega
  have hpos : ∀ {j j' : Nat} (hj : j < out.length) (hj' : j' < out.length), out[j] = out[j'] → j = j' := fun {j j'} hj hj' h => by
    have hp := List.pairwise_iff_getElem.1 (List.nodup_iff_pairwise_ne.1 hk.nodup)
    rcases Nat.lt_trichotomy j j' with h1 | h1 | h1
    · exact absurd h (hp j j' hj hj' h1)
    · exact h1
    · exact absurd h.symm (hp j' j hj' hj h1)
  rintro a ha ⟨D, hD, e, he, hf, hm, ht⟩
  obtain ⟨i, hi, rfl⟩ := hall a ha
  -- whatever reaches the node stands no later than it
  have key : ∀ (k : Nat) x j (hj : j < out.length), out[j] = x → D x = (k : Int) → j ≤ i := by
    intro k
    induction k with
    | zero =>
      intro x j hj hx hd
      have := hD.zero x (by rw [← hx]; exact hk.lt _ (List.getElem_mem _)) (by simpa using hd)
      exact Nat.le_of_eq (hpos hj hi (hx.trans this))
    | succ k ih =>
      intro x j hj hx hd
      obtain ⟨y, hy, ⟨e', he', hf', ht', hm'⟩, hb⟩ := hD.back x (by rw [← hx]; exact hk.lt _ (List.getElem_mem _)) (by omega)
      obtain ⟨j2, hj2, rfl⟩ := hall y hy
      obtain ⟨i', hi', hi'', hfr⟩ := hk.edge he' hm' hj2 ht'
      have e1 : out[i'] = out[j] := by omega
      have := hpos hi'' hj e1
      have := ih _ j2 hj2 rfl (by omega)
      omega
  obtain ⟨k1, k2, k3, k4, _⟩ := hok e he
  obtain ⟨y, hy⟩ := Int.eq_ofNat_of_zero_le k3
  obtain ⟨j, hj, hjy⟩ := hall y (by omega)
  obtain ⟨i', hi', hi'', hfr⟩ := hk.edge he hm hj (by rw [hy, hjy])
  have e1 : out[i'] = out[i] := by omega
  have e2 := hpos hi'' hi e1
  rw [hy] at ht
  obtain ⟨k, hkd⟩ := Int.eq_ofNat_of_zero_le ht
  have := key k y j hj hjy (by simpa using hkd)
  omega
/-- What the counts are. -/
def KO (es : List E) (mask : Int) (out : List Nat) (y : Nat) : Int := if y ∈ out then -1 else (cntTo (live es out) mask y : Int)
def KI (es : List E) (mask : Int) (out : List Nat) (L : List E) (y : Nat) : Int := if y ∈ out then -1 else (cntTo (live es out) mask y : Int) + (cntTo L mask y : Int)
theorem KO_start (es : List E) (mask : Int) (y : Nat) : KO es mask [] y = (cntTo es mask y : Int) := by
  unfold KO
  rw [if_neg (by simp), live_nil]
theorem KO_zero {es : List E} {mask : Int} {out : List Nat} {x : Nat} : KO es mask out x = 0 ↔ Free es mask out x := by
  unfold KO
  by_cases h : x ∈ out
  · rw [if_pos h]
    exact ⟨fun h' => by omega, fun h' => absurd h h'.1⟩
  · rw [if_neg h, free_iff h]
    omega
theorem KI_start {es : List E} {N : Nat} {mask : Int} {out : List Nat} {x : Nat} (hx : x ∉ out) (hN : x < N) (y : Nat) : upd (KO es mask out) x (-1) y = KI es mask (out ++ [x]) (rowE es N x) y := by
  by_cases h : y = x
  · subst h
    rw [upd_same]
    unfold KI
    rw [if_pos (by simp)]
  · rw [upd_other h]
    unfold KI KO
    by_cases h2 : y ∈ out
    · rw [if_pos h2, if_pos (by simp [h2])]
    · rw [if_neg h2, if_neg (by simp [h2, h]), cnt_split es N mask out x hx hN y]
      omega
theorem KI_end (es : List E) (mask : Int) (out : List Nat) (y : Nat) : KI es mask out [] y = KO es mask out y := by
  unfold KI KO
  split
  · rfl
  · show _ + ((0 : Nat) : Int) = _
    omega
theorem KI_in {es : List E} {mask : Int} {out : List Nat} {e : E} {L : List E} {t : Nat} (hm : inM e.lab mask = true) (ht : e.to = (t : Int)) (hn : t ∉ out) (y : Nat) : upd (KI es mask out (e :: L)) t (KI es mask out (e :: L) t - 1) y = KI es mask out L y := by
  by_cases h : y = t
  · subst h
    rw [upd_same]
    unfold KI
    rw [if_neg hn, if_neg hn, cntTo_cons, if_pos ⟨hm, ht⟩]
    omega
  · rw [upd_other h]
    unfold KI
    rw [cntTo_cons, if_neg (show ¬ (inM e.lab mask = true ∧ e.to = (y : Int)) from fun h' => h (by omega))]
    simp
theorem KI_off {es : List E} {mask : Int} {out : List Nat} {e : E} {L : List E} (hm : inM e.lab mask = false) (y : Nat) : KI es mask out (e :: L) y = KI es mask out L y := by
  unfold KI
  rw [cntTo_cons, if_neg (show ¬ (inM e.lab mask = true ∧ e.to = (y : Int)) from fun h' => by rw [hm] at h'; cases h'.1)]
  simp
theorem KI_range (es : List E) (mask : Int) (out : List Nat) (L : List E) (h1 : es.length ≤ 65536) (h2 : L.length ≤ 65536) (y : Nat) : -1 ≤ KI es mask out L y ∧ KI es mask out L y ≤ 131072 := by
  have h3 := cntTo_le (live es out) mask y
  have h4 : (live es out).length ≤ es.length := List.length_filter_le _ _
  have h5 := cntTo_le L mask y
  unfold KI
  split <;> omega
end Go.Proofs.Ytbbfbkoanbdghaa
