/- The owner's list and the list of what is held: plain laws, and the state of the walk of ExtentApart. No statement is proved here. -/
import Derived.Test.YtedalcocdgmigaaExtV
set_option linter.unusedVariables false
set_option linter.unusedSimpArgs false
namespace Go.Proofs.Ytedalcocdgmigaa
open Go.RowKit

theorem le_big : ∀ {hs : List (Int × Int)}, ∀ h ∈ hs, h.2 ≤ bigOf hs := by
  intro hs h hh
  obtain ⟨A, C, rfl⟩ := List.append_of_mem hh
  clear hh
  unfold bigOf
  rw [List.foldl_append, List.foldl_cons]
  have key : ∀ (C : List (Int × Int)) (m : Int), m ≤ C.foldl (fun m h => max m h.2) m := by
    intro C
    induction C with
    | nil => intro m; exact Int.le_refl _
    | cons y r ih => intro m; rw [List.foldl_cons]; exact Int.le_trans (Int.le_max_left _ _) (ih _)
  exact Int.le_trans (Int.le_max_right _ _) (key C _)
theorem big_lt {hs : List (Int × Int)} {c : Int} (h : ∀ a ∈ hs, a.2 < c) (hc : 1 ≤ c) : bigOf hs < c := by
  unfold bigOf
  have key : ∀ (hs : List (Int × Int)) (m : Int), m < c → (∀ a ∈ hs, a.2 < c) → hs.foldl (fun m h => max m h.2) m < c := by
    intro hs
    induction hs with
    | nil => intro m hm _; exact hm
    | cons y r ih => intro m hm h; rw [List.foldl_cons]; exact ih _ (by have := h y (by simp); omega) (fun a ha => h a (by simp [ha]))
  exact key hs 0 (by omega) h

def spanB (f c x : Int) : Bool := decide (f ≤ x) && decide (x < f + c)
theorem span_in {f c x : Int} (h1 : f ≤ x) (h2 : x < f + c) : spanB f c x = true := by simp [spanB, h1, h2]
theorem span_out {f c x : Int} (h : ¬ (f ≤ x ∧ x < f + c)) : spanB f c x = false := by
  unfold spanB
  rw [Bool.and_eq_false_iff]
  by_cases h1 : f ≤ x
  · exact .inr (decide_eq_false (fun h2 => h ⟨h1, h2⟩))
  · exact .inl (decide_eq_false h1)
theorem span_true {f c x : Int} (h : spanB f c x = true) : f ≤ x ∧ x < f + c := by simpa [spanB] using h

/-- Alloc has given: whence, and what it leaves. -/
structure GivenTell (n : Int) (hs hs' : List (Int × Int)) (f c : Int) : Prop where
  f0 : 0 ≤ f
  fn : f + c ≤ n
  c1 : 1 ≤ c
  all : ∀ x, f ≤ x → x < f + c → freeB hs x = true
  fr : ∀ x, freeB hs' x = (freeB hs x && !spanB f c x)
  left : leftOf hs' = leftOf hs - c
  big : c ≤ bigOf hs
def GivenPost (w : World) (p : Nat) (o : Option Nat) (n : Int) (hs : List (Int × Int)) (c : Int) (e : Ending) (w' : World) : Prop :=
  (∃ f hs' o', e = .returned (.tuple #[pairV f c, .int .i64 0]) ∧ GivenTell n hs hs' f c ∧ Sp w' p o' n hs' ∧ SpStep w w' p o o') ∨
  (¬ (1 ≤ c ∧ c ≤ bigOf hs) ∧ ∃ er : Int, er ≠ 0 ∧ e = .returned (.tuple #[pairV 0 0, .int .i64 er]) ∧ Below w.heap.size w w')
theorem alloc_given (p : Nat) (o : Option Nat) (n c : Int) (hs : List (Int × Int)) (w : World) (h : Sp w p o n hs) (hc2 : c ≤ 9223372036854775807) :
    Calls Try.prog 17 #[.pointer (some ⟨p, 0, none⟩), .int .i64 c] w (GivenPost w p o n hs c) := by
  by_cases hc : c < 1
  · refine (alloc_bad p c w hc).mono ?_
    rintro e w' ⟨rfl, hb⟩
    exact .inr ⟨by omega, 41, by decide, rfl, hb⟩
  · refine (alloc_good p o n c hs w h (by omega) hc2).mono ?_
    rintro e w' (⟨A, y, C, rfl, hA, hfit, rfl, o', hsp, hst⟩ | ⟨hno, rfl, hb⟩)
    · left
      have hm := h.ok.mem y (by simp)
      refine ⟨y.1, _, o', rfl, ⟨by omega, by omega, by omega, ?_, ?_, leftOf_cut A C y c (by omega) hfit, Int.le_trans hfit (le_big y (by simp))⟩, hsp, hst⟩
      · intro x h1 h2
        rw [freeB_append, freeB_cons]
        have e1 : (decide (y.1 ≤ x) && decide (x < y.1 + y.2)) = true := by simp; omega
        rw [e1]
        simp
      · intro x
        exact cut_free (e := (y.1, c)) h.ok (Int.le_refl _) (by simp; omega) (by simp; omega) x
    · exact .inr ⟨fun hh => by have := big_lt hno (by omega); omega, 42, by decide, rfl, hb⟩

/-- The owner's list: 0 where the block is free. -/
def owA (N : Nat) (g : Int → Bool) : Array Value := ((List.range N).map fun (x : Nat) => Value.int .i64 (if g (x : Int) then 0 else 1)).toArray
theorem owA_get {N k : Nat} {g : Int → Bool} (h : k < N) : (owA N g)[k]? = some (.int .i64 (if g (k : Int) then 0 else 1)) := by simp [owA, h]
theorem owA_congr {N : Nat} {g g' : Int → Bool} (h : ∀ x : Nat, x < N → g (x : Int) = g' (x : Int)) : owA N g = owA N g' := by
  unfold owA
  congr 1
  apply List.map_congr_left
  intro x hx
  rw [h x (List.mem_range.1 hx)]
theorem owA_set {N k : Nat} {g : Int → Bool} (b : Bool) : (owA N g).setIfInBounds k (.int .i64 (if b then 0 else 1)) = owA N (fun x => if x = (k : Int) then b else g x) := by
  apply Array.ext
  · simp [owA]
  · intro i h1 h2
    simp only [owA, List.setIfInBounds_toArray, List.getElem_toArray, List.getElem_set, List.getElem_map, List.getElem_range] at h1 h2 ⊢
    by_cases hk : k = i
    · subst hk; simp
    · have : ¬ (i : Int) = (k : Int) := by omega
      simp [hk, this]
theorem owA_made (N : Nat) : madeCells #[Value.int .i64 0] N = owA N (fun _ => true) := by
  apply Array.ext
  · simp [madeCells, owA]
  · intro i h1 h2
    simp [madeCells, owA, Nat.mod_one]

/-- What is held is no one's but the holder's. -/
structure HInv (n : Int) (hs H : List (Int × Int)) : Prop where
  one : ∀ i (hi : i < H.length), 0 < (H[i]).2 → 0 ≤ (H[i]).1 ∧ (H[i]).1 + (H[i]).2 ≤ n ∧ ∀ x, (H[i]).1 ≤ x → x < (H[i]).1 + (H[i]).2 → freeB hs x = false
  two : ∀ i j (hi : i < H.length) (hj : j < H.length), i ≠ j → 0 < (H[i]).2 → 0 < (H[j]).2 → (H[i]).1 + (H[i]).2 ≤ (H[j]).1 ∨ (H[j]).1 + (H[j]).2 ≤ (H[i]).1
theorem HInv.nil (n : Int) (hs : List (Int × Int)) : HInv n hs [] := ⟨fun i hi => by simp at hi, fun i j hi => by simp at hi⟩
theorem HInv.push0 {n : Int} {hs H : List (Int × Int)} (h : HInv n hs H) : HInv n hs (H ++ [(0, 0)]) := by
  have hl : (H ++ [((0 : Int), (0 : Int))]).length = H.length + 1 := by simp
  have hg : ∀ i (hi : i < (H ++ [((0 : Int), (0 : Int))]).length), 0 < ((H ++ [((0 : Int), (0 : Int))])[i]).2 → ∃ hi' : i < H.length, (H ++ [((0 : Int), (0 : Int))])[i] = H[i] := by
    intro i hi hp
    by_cases hi' : i < H.length
    · exact ⟨hi', List.getElem_append_left hi'⟩
    · rw [List.getElem_append_right (by omega)] at hp
      simp at hp
  refine ⟨fun i hi hp => ?_, fun i j hi hj hij hp hq => ?_⟩
  · obtain ⟨hi', e⟩ := hg i hi hp
    rw [e] at hp ⊢
    exact h.one i hi' hp
  · obtain ⟨hi', e⟩ := hg i hi hp
    obtain ⟨hj', e'⟩ := hg j hj hq
    rw [e] at hp ⊢
    rw [e'] at hq ⊢
    exact h.two i j hi' hj' hij hp hq
theorem HInv.push {n f c : Int} {hs hs' H : List (Int × Int)} (h : HInv n hs H) (g : GivenTell n hs hs' f c) : HInv n hs' (H ++ [(f, c)]) := by
  have hl : (H ++ [(f, c)]).length = H.length + 1 := by simp
  have hg : ∀ i (hi : i < (H ++ [(f, c)]).length), (∃ hi' : i < H.length, (H ++ [(f, c)])[i] = H[i]) ∨ (i = H.length ∧ (H ++ [(f, c)])[i] = (f, c)) := by
    intro i hi
    by_cases hi' : i < H.length
    · exact .inl ⟨hi', List.getElem_append_left hi'⟩
    · refine .inr ⟨by omega, ?_⟩
      rw [List.getElem_append_right (by omega)]
      simp [show i - H.length = 0 by omega]
  have hap : ∀ i (hi : i < H.length), 0 < (H[i]).2 → (H[i]).1 + (H[i]).2 ≤ f ∨ f + c ≤ (H[i]).1 := by
    intro i hi hp
    obtain ⟨a1, a2, a3⟩ := h.one i hi hp
    refine Classical.byContradiction fun hno => ?_
    have c1 := g.c1
    by_cases hx : f ≤ (H[i]).1
    · have b1 := g.all (H[i]).1 hx (by omega)
      have b2 := a3 (H[i]).1 (by omega) (by omega)
      rw [b1] at b2
      cases b2
    · have b1 := g.all f (by omega) (by omega)
      have b2 := a3 f (by omega) (by omega)
      rw [b1] at b2
      cases b2
  refine ⟨fun i hi hp => ?_, fun i j hi hj hij hp hq => ?_⟩
  · rcases hg i hi with ⟨hi', e⟩ | ⟨_, e⟩
    · rw [e] at hp ⊢
      obtain ⟨a1, a2, a3⟩ := h.one i hi' hp
      exact ⟨a1, a2, fun x h1 h2 => by rw [g.fr, a3 x h1 h2]; rfl⟩
    · rw [e] at hp ⊢
      exact ⟨g.f0, g.fn, fun x h1 h2 => by rw [g.fr, span_in h1 h2]; simp⟩
  · rcases hg i hi with ⟨hi', e⟩ | ⟨e1, e⟩ <;> rcases hg j hj with ⟨hj', e'⟩ | ⟨e2, e'⟩
    · rw [e] at hp ⊢
      rw [e'] at hq ⊢
      exact h.two i j hi' hj' hij hp hq
    · rw [e] at hp ⊢
      rw [e']
      exact hap i hi' hp
    · rw [e'] at hq ⊢
      rw [e]
      exact (hap j hj' hq).symm
    · omega
theorem HInv.back {n : Int} {hs hs' H : List (Int × Int)} (h : HInv n hs H) (k : Nat) (hk : k < H.length) (hp : 0 < (H[k]).2)
    (hfr : ∀ x, freeB hs' x = (freeB hs x || spanB (H[k]).1 (H[k]).2 x)) : HInv n hs' (H.set k (0, 0)) := by
  have hg : ∀ i (hi : i < (H.set k (0, 0)).length), 0 < ((H.set k (0, 0))[i]).2 → ∃ hi' : i < H.length, i ≠ k ∧ (H.set k (0, 0))[i] = H[i] := by
    intro i hi hq
    have hi' : i < H.length := by simpa using hi
    by_cases e : k = i
    · subst e
      simp at hq
    · exact ⟨hi', Ne.symm e, by simp [List.getElem_set, e]⟩
  refine ⟨fun i hi hq => ?_, fun i j hi hj hij hq hr => ?_⟩
  · obtain ⟨hi', hne, e⟩ := hg i hi hq
    rw [e] at hq ⊢
    obtain ⟨a1, a2, a3⟩ := h.one i hi' hq
    refine ⟨a1, a2, fun x h1 h2 => ?_⟩
    rw [hfr, a3 x h1 h2, Bool.false_or]
    have := h.two i k hi' hk hne hq hp
    exact span_out (by omega)
  · obtain ⟨hi', hne, e⟩ := hg i hi hq
    obtain ⟨hj', hne', e'⟩ := hg j hj hr
    rw [e] at hq ⊢
    rw [e'] at hr ⊢
    exact h.two i j hi' hj' hij hq hr

/-! ### The memory -/
structure Ap (B : Nat) (w : World) (p : Nat) (o : Option Nat) (u : Nat) (v : Value) (N : Nat) (hs : List (Int × Int)) (g : Int → Bool) (H : List (Int × Int)) : Prop where
  sp : Sp w p o N hs
  hu : w.heap[u]? = some (.cells (owA N g) 3 (0, 0))
  own : w.ownsRow 0 31 2 v H.length (cells2 H)
  pu : p ≠ u
  ou : o ≠ some u
  vp : v.ownBlock ≠ some p
  vu : v.ownBlock ≠ some u
  vo : ∀ k, o = some k → v.ownBlock ≠ some k
  bp : SpNew B p o
  bu : B ≤ u
  bv : ∀ k, v.ownBlock = some k → B ≤ k

theorem owns_lt {w : World} {v : Value} {n : Nat} {xs : List Value} (h : w.ownsRow 0 31 2 v n xs) : ∀ k, v.ownBlock = some k → k < w.heap.size := by
  intro k hk
  rcases h.2 with ⟨rfl, _⟩ | ⟨g0, cap0, cur, rfl, k0, hg, rest⟩
  · simp [Value.ownBlock] at hk
  · simp [Value.ownBlock] at hk
    subst hk
    exact blk_lt hg
theorem owns_kept {w w' : World} {v : Value} {n : Nat} {xs : List Value} (h : w.ownsRow 0 31 2 v n xs) (hb : ∀ k, v.ownBlock = some k → w'.heap[k]? = w.heap[k]?) : w'.ownsRow 0 31 2 v n xs := by
  refine ⟨h.1, ?_⟩
  rcases h.2 with hh | ⟨g0, cap0, cur, rfl, k0, hg, rest⟩
  · exact .inl hh
  · exact .inr ⟨g0, cap0, cur, rfl, k0, (hb g0 rfl).trans hg, rest⟩

section
variable {B : Nat} {w w' : World} {p u N : Nat} {o o' : Option Nat} {v v' : Value} {hs hs' H : List (Int × Int)} {g g' : Int → Bool}

theorem Ap.lt (a : Ap B w p o u v N hs g H) : p < w.heap.size ∧ u < w.heap.size ∧ (∀ k, o = some k → k < w.heap.size) ∧ ∀ k, v.ownBlock = some k → k < w.heap.size :=
  ⟨a.sp.lt.1, blk_lt a.hu, a.sp.lt.2, owns_lt a.own⟩
theorem Ap.below (a : Ap B w p o u v N hs g H) (hb : Below w.heap.size w w') : Ap B w' p o u v N hs g H := by
  obtain ⟨h1, h2, h3, h4⟩ := a.lt
  exact ⟨a.sp.below hb, (hb.block u h2).trans a.hu, owns_kept a.own (fun k hk => hb.block k (h4 k hk)), a.pu, a.ou, a.vp, a.vu, a.vo, a.bp, a.bu, a.bv⟩
theorem Ap.step (a : Ap B w p o u v N hs g H) (h : SpStep w w' p o o') (hsp : Sp w' p o' N hs') (hB : B ≤ w.heap.size) : Ap B w' p o' u v N hs' g H ∧ Below B w w' := by
  obtain ⟨h1, h2, h3, h4⟩ := a.lt
  obtain ⟨a1, a2⟩ := h.aside (Ne.symm a.pu) a.ou h2
  have hv : ∀ k, v.ownBlock = some k → o' ≠ some k ∧ w'.heap[k]? = w.heap[k]? := fun k hk => h.aside (fun e => a.vp (by rw [hk, e])) (fun e => a.vo k e hk) (h4 k hk)
  obtain ⟨d1, d2⟩ := a.bp.step h hB
  exact ⟨⟨hsp, a2.trans a.hu, owns_kept a.own (fun k hk => (hv k hk).2), a.pu, a1, a.vp, a.vu, fun k hk e => (hv k e).1 hk, d1, a.bu, a.bv⟩, d2⟩
theorem Ap.mark (a : Ap B w p o u v N hs g H) (h : Upd (fun k => k = u) w w') (hu : w'.heap[u]? = some (.cells (owA N g') 3 (0, 0))) (hB : B ≤ w.heap.size) : Ap B w' p o u v N hs g' H ∧ Below B w w' := by
  obtain ⟨h1, h2, h3, h4⟩ := a.lt
  exact ⟨⟨a.sp.upd h a.pu (fun k hk e => a.ou (by rw [hk, e])), hu, owns_kept a.own (fun k hk => h.block k (h4 k hk) (fun e => a.vu (by rw [hk, e]))), a.pu, a.ou, a.vp, a.vu, a.vo, a.bp, a.bu, a.bv⟩,
    h.below hB (fun k hk => hk ▸ a.bu)⟩
theorem Ap.append {H' : List (Int × Int)} (a : Ap B w p o u v N hs g H) (hown : w'.ownsRow 0 31 2 v' H'.length (cells2 H')) (hg : w.grownBy w' v.ownBlock)
    (hv : v'.ownBlock = v.ownBlock ∨ (v'.ownBlock = some w.heap.size ∧ w.grownBy w' none)) (hB : B ≤ w.heap.size) : Ap B w' p o u v' N hs g H' ∧ Below B w w' := by
  obtain ⟨h1, h2, h3, h4⟩ := a.lt
  have hupd := Upd.of_grown hg
  have hne : ∀ k, k < w.heap.size → v.ownBlock ≠ some k → v'.ownBlock ≠ some k := by
    intro k hk hh e
    rcases hv with h | ⟨h, _⟩
    · exact hh (h ▸ e)
    · rw [h] at e
      cases e
      omega
  refine ⟨⟨a.sp.upd hupd a.vp (fun k hk => a.vo k hk), (hupd.block u h2 a.vu).trans a.hu, hown, a.pu, a.ou, hne p h1 a.vp, hne u h2 a.vu, fun k hk => hne k (h3 k hk) (a.vo k hk), a.bp, a.bu, ?_⟩, hupd.below hB a.bv⟩
  intro k hk
  rcases hv with h | ⟨h, _⟩
  · exact a.bv k (h ▸ hk)
  · rw [h] at hk
    cases hk
    exact hB
theorem Ap.gcongr (a : Ap B w p o u v N hs g H) (h : ∀ x : Nat, x < N → g (x : Int) = g' (x : Int)) : Ap B w p o u v N hs g' H :=
  ⟨a.sp, by rw [a.hu, owA_congr h], a.own, a.pu, a.ou, a.vp, a.vu, a.vo, a.bp, a.bu, a.bv⟩
/-- One block's owner is written. -/
theorem Ap.set1 (a : Ap B w p o u v N hs g H) (m : Nat) (b : Bool) (hB : B ≤ w.heap.size) (hg : ∀ y : Nat, y < N → (if (y : Int) = (m : Int) then b else g (y : Int)) = g' (y : Int)) :
    Ap B (w.setCell ⟨u, m, none⟩ (.int .i64 (if b then 0 else 1))) p o u v N hs g' H ∧ Below B w (w.setCell ⟨u, m, none⟩ (.int .i64 (if b then 0 else 1))) ∧ Upd (fun k => k = u) w (w.setCell ⟨u, m, none⟩ (.int .i64 (if b then 0 else 1))) := by
  have hu := (Upd.refl (fun k => k = u) w).setCell (p := ⟨u, m, none⟩) (fun _ => rfl) (.int .i64 (if b then 0 else 1))
  have h1 := heap_setCell_same w u m _ _ (.int .i64 (if b then 0 else 1)) a.hu
  rw [owA_set, owA_congr hg] at h1
  obtain ⟨a1, a2⟩ := a.mark hu h1 hB
  exact ⟨a1, a2, hu⟩
theorem Ap.cell (a : Ap B w p o u v N hs g H) (m : Nat) (hm : m < N) : w.cell? ⟨u, m, none⟩ = some (.int .i64 (if g (m : Int) then 0 else 1)) ∧ w.frozen? ⟨u, m, none⟩ = false :=
  ⟨(blk_cell a.hu m).trans (owA_get hm), blk_free a.hu m⟩
/-- An element of what is held is written anew. -/
theorem Ap.held {gb m cap : Nat} (a : Ap B w p o u (.slice (some ⟨gb, 0, none⟩) m cap) N hs g H) (k : Nat) (x y : Int) (hB : B ≤ w.heap.size) :
    Ap B ((w.setCell ⟨gb, k * 2, none⟩ (.int .i64 x)).setCell ⟨gb, k * 2 + 1, none⟩ (.int .i64 y)) p o u (.slice (some ⟨gb, 0, none⟩) m cap) N hs g (H.set k (x, y)) ∧
    Below B w ((w.setCell ⟨gb, k * 2, none⟩ (.int .i64 x)).setCell ⟨gb, k * 2 + 1, none⟩ (.int .i64 y)) := by
  obtain ⟨h1, h2, h3, h4⟩ := a.lt
  have hu := ((Upd.refl (fun k => k = gb) w).setCell (p := ⟨gb, k * 2, none⟩) (fun _ => rfl) (.int .i64 x)).setCell (p := ⟨gb, k * 2 + 1, none⟩) (fun _ => rfl) (.int .i64 y)
  have ho := own_store k x y a.own
  have hp : p ≠ gb := fun e => a.vp (by rw [e]; rfl)
  have hun : u ≠ gb := fun e => a.vu (by rw [e]; rfl)
  refine ⟨⟨a.sp.upd hu hp (fun k hk e => a.vo k hk (by rw [e]; rfl)), (hu.block u h2 hun).trans a.hu, ho, a.pu, a.ou, a.vp, a.vu, a.vo, a.bp, a.bu, a.bv⟩, hu.below hB (fun k hk => hk ▸ a.bv gb rfl)⟩
theorem left_range (h : Sp w p o N hs) : 0 ≤ leftOf hs ∧ leftOf hs ≤ 4096 := by
  have hn := h.n1
  rw [leftOf_cnt (by omega) h.ok N (Int.le_refl _)]
  have key : ∀ k : Nat, 0 ≤ cntB (freeB hs) k ∧ cntB (freeB hs) k ≤ k := by
    intro k
    induction k with
    | zero => simp [cntB]
    | succ k ih => simp only [cntB]; split <;> omega
  have := key N
  omega
/-- A block aside: a box of the walk. -/
theorem Ap.box (a : Ap B w p o u v N hs g H) (cs : Array Value) (ty : TypeId) : Ap B (w.alloc (.cells cs ty)) p o u v N hs g H := a.below ((Below.refl _ w).alloc (Nat.le_refl _) _)
end

end Go.Proofs.Ytedalcocdgmigaa
