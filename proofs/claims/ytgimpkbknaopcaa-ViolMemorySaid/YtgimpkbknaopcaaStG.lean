/- The program's Sort: it owns the document's sorted list. No statement is proved here. -/
import Derived.Test.YtgimpkbknaopcaaStF
import Derived.Test.YtgimpkbknaopcaaVY
import Derived.Test.YtgimpkbknaopcaaVG
set_option linter.unusedVariables false
set_option linter.unusedSimpArgs false
namespace Go.Proofs.Ytgimpkbknaopcaa
open Go.RowKit Go.Shelf Go.Lib
open Go.Sort hiding Below

theorem stV : StL Try.prog 12 := ⟨by kernel_rfl, Try.underlying28, Try.isAgg30, Try.sizeOf30, Try.underlying3, Try.underlying73, Try.func58, enters_of Try.func58 (by kernel_rfl) rfl, Try.func56, enters_of Try.func56 (by kernel_rfl) rfl, Try.func50, enters_of Try.func50 (by kernel_rfl) rfl⟩
/-- Violations with the places that they had. -/
def ptsOf : Nat → List V → List Pt
  | _, [] => []
  | i, x :: r => ⟨x, i⟩ :: ptsOf (i + 1) r
theorem ptsOf_length : ∀ (l : List V) (i : Nat), (ptsOf i l).length = l.length
  | [], _ => rfl
  | x :: r, i => by simp [ptsOf, ptsOf_length r]
theorem ptsOf_map : ∀ (l : List V) (i : Nat), (ptsOf i l).map (·.v) = l
  | [], _ => rfl
  | x :: r, i => by simp [ptsOf, ptsOf_map r]
theorem ptsOf_num : ∀ (l : List V) (i j : Nat) (h : j < (ptsOf i l).length), ((ptsOf i l)[j]).num = ((i + j : Nat) : Int)
  | [], i, j, h => by simp [ptsOf] at h
  | x :: r, i, 0, h => by simp [ptsOf]
  | x :: r, i, j + 1, h => by
    simp only [ptsOf, List.getElem_cons_succ]
    rw [ptsOf_num r (i + 1) j (by simpa [ptsOf] using h)]
    congr 1
    omega
theorem ptsOf_v : ∀ (l : List V) (i j : Nat) (h : j < (ptsOf i l).length) (h' : j < l.length), ((ptsOf i l)[j]).v = l[j]
  | [], i, j, h, _ => by simp [ptsOf] at h
  | x :: r, i, 0, h, _ => by simp [ptsOf]
  | x :: r, i, j + 1, h, h' => by
    simp only [ptsOf, List.getElem_cons_succ]
    exact ptsOf_v r (i + 1) j (by simpa [ptsOf] using h) (by simpa using h')
theorem ptsOf_ge : ∀ (l : List V) (i : Nat), ∀ p ∈ ptsOf i l, (i : Int) ≤ p.num
  | [], _, p, h => by simp [ptsOf] at h
  | x :: r, i, p, h => by
    simp only [ptsOf, List.mem_cons] at h
    rcases h with rfl | h
    · exact Int.le_refl _
    · have := ptsOf_ge r (i + 1) p h
      omega
theorem ptsOf_asc : ∀ (l : List V) (i : Nat), (ptsOf i l).Pairwise (fun x y => x.num < y.num)
  | [], _ => List.Pairwise.nil
  | x :: r, i => by
    simp only [ptsOf, List.pairwise_cons]
    refine ⟨fun p hp => ?_, ptsOf_asc r (i + 1)⟩
    have := ptsOf_ge r (i + 1) p hp
    show (i : Int) < p.num
    omega
theorem cmpV_neg {x y : V} : cmpV x y < 0 ↔ ltV x y := by
  unfold cmpV ltV orI
  by_cases h1 : cmpI x.time y.time = 0
  · rw [if_pos h1]
    have h1' := cmpI_zero.1 h1
    by_cases h2 : cmpI x.kind y.kind = 0
    · rw [if_pos h2]
      have h2' := cmpI_zero.1 h2
      by_cases h3 : cmpI x.txn y.txn = 0
      · rw [if_pos h3, cmpI_neg]
        have h3' := cmpI_zero.1 h3
        omega
      · rw [if_neg h3, cmpI_neg]
        have h3' : ¬ x.txn = y.txn := fun e => h3 (cmpI_zero.2 e)
        omega
    · rw [if_neg h2, cmpI_neg]
      have h2' : ¬ x.kind = y.kind := fun e => h2 (cmpI_zero.2 e)
      omega
  · rw [if_neg h1, cmpI_neg]
    have h1' : ¬ x.time = y.time := fun e => h1 (cmpI_zero.2 e)
    omega
def encQ (p : Pt) : List Value := p.v.cs
def cfQ (p q : Pt) : Int := cmpV p.v q.v
theorem hagQ (x y : Pt) (h : y.num.toNat < x.num.toNat) : ltOf cfQ x y = ltOf cfP x y := by
  have e : (cfQ x y < 0) ↔ (cfP x y < 0) := by
    rw [cfP_neg]
    unfold cfQ ltP
    have hn : ¬ x.num < y.num := by omega
    constructor
    · intro h
      refine .inl ?_
      have hs : cmpV x.v y.v < 0 ↔ ltV x.v y.v := cmpV_neg
      exact hs.1 h
    · rintro (h | ⟨_, h⟩)
      · have hs : cmpV x.v y.v < 0 ↔ ltV x.v y.v := cmpV_neg
        exact hs.2 h
      · exact absurd h hn
  unfold ltOf
  by_cases hx : cfQ x y < 0
  · rw [decide_eq_true hx, decide_eq_true (e.1 hx)]
  · rw [decide_eq_false hx, decide_eq_false (fun hh => hx (e.2 hh))]
theorem holdsV {w : World} {g n cap : Nat} {l : List V} (h : OwnV w (.slice (some ⟨g, 0, none⟩) n cap) l) : HoldsK encQ 12 w g 0 (ptsOf 0 l).toArray ∧ g < w.heap.size ∧ n = l.length := by
  rcases h.2 with ⟨hh, _⟩ | ⟨g0, cap0, cur, hv0, k0, hg, rest⟩
  · cases hh
  · have e : g = g0 := by simp at hv0; exact hv0.1
    have e2 : n = l.length := by cases hv0; rfl
    subst e
    refine ⟨?_, blk_lt hg, e2⟩
    intro t ht
    have ht' : t < l.length * 12 := by simpa [ptsOf_length] using ht
    have hi : t / 12 < l.length := by omega
    have hj : t % 12 < 12 := by omega
    have hc := h.cells (g := g) rfl t
    have hget := cellsV_get l (t / 12) (t % 12) hi hj
    rw [show t / 12 * 12 + t % 12 = t by omega] at hget
    refine ⟨?_, by rw [Nat.zero_add]; exact blk_free hg t⟩
    rw [get_flatK _ _ _ _ (by simpa [ptsOf_length] using ht')]
    have hv : ∃ v, (l[t / 12]).cs[t % 12]? = some v := ⟨_, List.getElem?_eq_getElem (by rw [V.cs_length]; exact hj)⟩
    obtain ⟨v, hv⟩ := hv
    have h1 := hc v (hget.trans hv)
    rw [Addr.add_lit] at h1
    have hip : t / 12 < (ptsOf 0 l).length := by rw [ptsOf_length]; exact hi
    have e3 : encQ ((ptsOf 0 l).toArray[t / 12]!) = (l[t / 12]).cs := by
      have : (ptsOf 0 l).toArray[t / 12]! = (ptsOf 0 l)[t / 12] := by simp [hip]
      rw [this]
      unfold encQ
      rw [ptsOf_v l 0 _ hip hi]
    rw [e3]
    have e4 : ((l[t / 12]).cs)[t % 12]! = v := by
      rw [List.getElem!_eq_getElem?_getD, hv]; rfl
    rw [e4]
    exact h1
theorem ownV_swk {w w' : World} {g n cap : Nat} {l : List V} {d' : Array Pt} (h : OwnV w (.slice (some ⟨g, 0, none⟩) n cap) l) (S : SWK encQ 12 w g 0 d' w') (hs : d'.size = l.length) : OwnV w' (.slice (some ⟨g, 0, none⟩) n cap) (d'.toList.map (·.v)) := by
  have hH := holdsV h
  have hH' := S.holds hH.2.1 hH.1 (by simpa [ptsOf_length] using hs)
  rcases h.2 with ⟨hh, _⟩ | ⟨g0, cap0, cur, hv0, k0, hg, hle, hcm, hcs, htk⟩
  · cases hh
  · have e : g = g0 := by simp at hv0; exact hv0.1
    subst e
    have hg' : ∃ cur', w'.heap[g]? = some (.cells cur' 30 (0, 0)) ∧ cur'.size = cur.size := by
      obtain ⟨m, os, rfl⟩ := S
      refine ⟨putCells id 0 (flatK encQ 12 d') cur, ?_, by simp [putCells]⟩
      unfold sortWorldK putRowK putRow mapBlock grow Go.Sort.ahead
      simp only
      rw [Array.getElem?_append_left (by simpa using hH.2.1), Array.getElem?_modify, if_pos rfl, hg]
      rfl
    obtain ⟨cur', hg1, hsz⟩ := hg'
    have hml : (d'.toList.map (·.v)).length = l.length := by simp [hs]
    refine ⟨cellsV_length _, .inr ⟨g, cap0, cur', by rw [hml]; exact hv0, k0, hg1, by rw [hml]; exact hle, hcm, by rw [hsz]; exact hcs, ?_⟩⟩
    have hle' : (d'.toList.map (·.v)).length * 12 ≤ cur'.size := by
      rw [hsz, hcs, hml]
      exact Nat.mul_le_mul_right _ hle
    apply List.ext_getElem?
    intro t
    by_cases ht : t < (d'.toList.map (·.v)).length * 12
    · rw [List.getElem?_take, if_pos ht]
      have ht' : t < d'.size * 12 := by simpa using ht
      have hi : t / 12 < (d'.toList.map (·.v)).length := by omega
      have hj : t % 12 < 12 := by omega
      have hc := (hH' t (by simpa using ht')).1
      rw [get_flatK _ _ _ _ ht', Nat.zero_add, blk_cell hg1] at hc
      have hget := cellsV_get (d'.toList.map (·.v)) (t / 12) (t % 12) hi hj
      rw [show t / 12 * 12 + t % 12 = t by omega] at hget
      rw [hget, Array.getElem?_toList, hc]
      have e3 : d'[t / 12]!.v = (d'.toList.map (·.v))[t / 12] := by
        have : t / 12 < d'.size := by omega
        simp [this]
      rw [← e3]
      simp only [id]
      unfold encQ
      rw [List.getElem!_eq_getElem?_getD, List.getElem?_eq_getElem (by rw [V.cs_length]; exact hj)]
      rfl
    · rw [List.getElem?_eq_none (by rw [List.length_take]; omega), List.getElem?_eq_none (by rw [cellsV_length]; omega)]
theorem pairwise_of {lt : Pt → Pt → Bool} : ∀ (l : List Pt), (∀ i j (hi : i < l.length) (hj : j < l.length), i < j → lt l[j] l[i] = false) → l.Pairwise (fun x y => lt y x = false)
  | [], _ => List.Pairwise.nil
  | x :: r, h => by
    rw [List.pairwise_cons]
    refine ⟨fun y hy => ?_, pairwise_of r fun i j hi hj hij => ?_⟩
    · obtain ⟨j, hj, rfl⟩ := List.getElem_of_mem hy
      exact h 0 (j + 1) (by simp) (by simpa using hj) (by omega)
    · exact h (i + 1) (j + 1) (by simpa using hi) (by simpa using hj) (by omega)
/-- A sorted permutation of the numbered list is the document's sort. -/
theorem sorted_is {l : List V} {d' : Array Pt} (hp : PermIn 0 l.length (ptsOf 0 l).toArray d') (hs : SortedIn (ltOf cfP) 0 l.length d') : d'.toList.map (·.v) = sortV l := by
  have hsz : d'.size = l.length := by rw [hp.1]; simp [ptsOf_length]
  have hperm : d'.toList.Perm (ptsOf 0 l) := by
    have h := hp.2.2
    have e1 : d'.extract 0 l.length = d' := by rw [← hsz]; simp
    have e2 : (ptsOf 0 l).toArray.extract 0 l.length = (ptsOf 0 l).toArray := by
      have : l.length = (ptsOf 0 l).toArray.size := by simp [ptsOf_length]
      rw [this]; simp
    rw [e1, e2] at h
    exact h
  have hnum : d'.toList.Pairwise (fun x y => x.num ≠ y.num) := by
    refine (List.Perm.pairwise_iff (fun h => h.symm) hperm).2 ?_
    exact (ptsOf_asc l 0).imp fun h => by omega
  have hle : d'.toList.Pairwise (fun x y => ltOf cfP y x = false) := pairwise_of _ fun i j hi hj hij => by
    have := hs i j (Nat.zero_le _) hij (by simpa [hsz] using hj)
    have h1 : i < d'.size := by simpa using hi
    have h2 : j < d'.size := by simpa using hj
    simpa [h1, h2] using this
  have hlt : d'.toList.Pairwise ltP := (hle.and hnum).imp fun {x y} h => by
    rcases ltP_total h.2 with h1 | h1
    · exact h1
    · have := (lt_iff y x).2 h1
      rw [h.1] at this
      cases this
  have hS := sort_sorted _ (ptsOf 0 l) (Nat.le_refl _) (ptsOf_asc l 0)
  have hSp := sort_perm _ (ptsOf 0 l) (Nat.le_refl _)
  have h1 := firsts_take d'.toList (sortP (ptsOf 0 l)) [] hlt hS (by rw [List.append_nil]; exact hperm.trans hSp.symm) (fun x _ y hy => by cases hy)
  have h2 := sort_map _ (ptsOf 0 l) (Nat.le_refl _)
  rw [ptsOf_map] at h2
  rw [h2, ← h1]
  have hlen : d'.toList.length = (sortP (ptsOf 0 l)).length := (hperm.trans hSp.symm).length_eq
  rw [hlen, List.take_of_length_le (Nat.le_refl _)]
set_option maxHeartbeats 1000000 in
set_option maxRecDepth 100000 in
/-- SortStableFunc by Compare. -/
theorem stable_viols {w : World} {g cap : Nat} {l : List V} (h : OwnV w (.slice (some ⟨g, 0, none⟩) l.length cap) l) (hl : l.length ≤ 1172812402960) :
    Calls Try.prog 32 #[.slice (some ⟨g, 0, none⟩) l.length cap, .func (.func 17) #[] #[]] w fun e w' => e = .returned (.tuple #[]) ∧ OwnV w' (.slice (some ⟨g, 0, none⟩) l.length cap) (sortV l) ∧ Upd (fun k => k = g) w w' := by
  obtain ⟨hH, hg, _⟩ := holdsV h
  have hsz : (ptsOf 0 l).toArray.size = l.length := by simp [ptsOf_length]
  have hst := stable_o stV encQ cfQ (ltOf cfP) (fun p => p.num.toNat) hagQ swoP 17 #[] (enters_of Try.func17 (by kernel_rfl) rfl) g 0 cap (ptsOf 0 l).toArray w ⟨fun p => V.cs_length p.v, fun p => V.cs_one p.v, hH, hg⟩ (fun m os dk _ x y => compare_any x.v y.v _) (by rw [hsz]; omega) (fun i hi => by
    have hi' : i < (ptsOf 0 l).length := by simpa using hi
    have : (ptsOf 0 l).toArray[i]! = (ptsOf 0 l)[i] := by simp [hi']
    rw [this, ptsOf_num l 0 i hi']
    omega) w (SWK.start hH)
  rw [hsz] at hst
  obtain ⟨L, hL⟩ : ∃ L, L = l.length := ⟨_, rfl⟩
  have HL := hid hL
  have HST := hid hst
  have HOW := hid h
  rw [← hL] at HST ⊢
  clear hst h hH hg hsz hL hl
  go_enter Try.func32, Try.ntmps32
  go_wp2_with (go_at_call 38; refine HST.out.mono ?_; rintro e w2 ⟨rfl, d', h1, h2, h3⟩; have H1 := hid h1; have H2 := hid h2; have H3 := hid h3; clear h1 h2 h3)
  refine bodyPost_end (v := .tuple #[]) (by simp [results, Try.results32, go_sem]) rfl ?_
  have hd : d'.size = l.length := by rw [H1.out.1]; simp [ptsOf_length]
  have ho := ownV_swk HOW.out H3.out hd
  rw [sorted_is (by have := H1.out; rw [HL.out] at this; exact this) (by have := H2.out; rw [HL.out] at this; exact this)] at ho
  rw [HL.out]
  exact ⟨rfl, ho, swk_upd H3.out⟩
theorem copy_viols {w : World} {a : Option Addr} {l : List V} (ha : VIn w a l) (cap : Nat) (hl : l.length ≤ 1172812402960) (hnil : a = none → l = []) :
    ∃ g c w2, (Builtin.append_ #[28, 28] 28 #[.slice (some ⟨w.heap.size, 0, none⟩) 0 0, .slice a l.length cap]).run Try.prog (w.alloc (.cells #[] 30)) = .ok (.slice (some ⟨g, 0, none⟩) l.length c) w2 ∧ OwnV w2 (.slice (some ⟨g, 0, none⟩) l.length c) l ∧ w.heap.size ≤ g ∧ Below w.heap.size w w2 := by
  have hal := (Below.refl _ w).alloc (Nat.le_refl _) (.cells #[] 30)
  have h0 : OwnV (w.alloc (.cells #[] 30)) (.slice (some ⟨w.heap.size, 0, none⟩) 0 0) [] := ⟨rfl, .inr ⟨w.heap.size, 0, #[], rfl, Nat.zero_le _, heap_alloc_new w _, Nat.le_refl _, by unfold maxLen; omega, rfl, rfl⟩⟩
  cases a with
  | none =>
    obtain rfl := hnil rfl
    exact ⟨_, _, _, app_none _ _ _ _, h0, Nat.le_refl _, hal⟩
  | some ad =>
    have key : ∀ (ad : Addr), (∀ j u, (cellsV l)[j]? = some u → (w.alloc (.cells #[] 30)).cell? (ad.add j) = some u) → ∃ g c w2, (Builtin.append_ #[28, 28] 28 #[.slice (some ⟨w.heap.size, 0, none⟩) 0 0, .slice (some ad) l.length cap]).run Try.prog (w.alloc (.cells #[] 30)) = .ok (.slice (some ⟨g, 0, none⟩) l.length c) w2 ∧ OwnV w2 (.slice (some ⟨g, 0, none⟩) l.length c) l ∧ w.heap.size ≤ g ∧ Below w.heap.size w w2 := fun ad hc => by
      obtain ⟨v', w2, hrun, hown, hgr, hdis⟩ := app_viols (w.alloc (.cells #[] 30)) 28 (.slice (some ⟨w.heap.size, 0, none⟩) 0 0) [] l h0 ad cap hc (by simp; omega)
      rw [List.nil_append] at hown
      have hx : ∃ k, v'.ownBlock = some k ∧ w.heap.size ≤ k := by
        rcases hdis with h1 | ⟨h1, _⟩
        · exact ⟨w.heap.size, h1.trans rfl, Nat.le_refl _⟩
        · exact ⟨_, h1, hal.size⟩
      obtain ⟨k, hk, hkl⟩ := hx
      rcases hown.2 with ⟨rfl, _⟩ | ⟨g, c, cur, rfl, _⟩
      · cases hk
      · cases hk
        exact ⟨_, _, w2, hrun, hown, hkl, hal.trans ((Upd.of_grown hgr).below hal.size (fun k hk => by cases hk; exact Nat.le_refl _))⟩
    by_cases hn : l = []
    · subst hn
      exact key ad (fun j u hj => by simp [cellsV] at hj)
    · obtain ⟨b, o, e, hb, hc⟩ := ha hn
      cases e
      have ha2 : VIn (w.alloc (.cells #[] 30)) (some ⟨b, o, none⟩) l := ha.below hal
      exact key _ ha2.cells
set_option maxHeartbeats 1000000 in
set_option maxRecDepth 100000 in
/-- The program's Sort. -/
theorem vsort_any (a : Option Addr) (cap : Nat) (l : List V) (w : World) (ha : VIn w a l) (hl : l.length ≤ 1172812402960) (hnil : a = none → l = []) :
    Calls Try.prog 19 #[.slice a l.length cap] w (SortPost w l) := by
  obtain ⟨g, c, w2, hrun, hown, hg, hbel⟩ := copy_viols ha cap hl hnil
  have HS := hid (stable_viols hown hl)
  have HB := hid hbel
  have HG := hid hg
  obtain ⟨L, hL⟩ : ∃ L, L = l.length := ⟨_, rfl⟩
  rw [← hL] at hrun HS ⊢
  clear hown hbel hg ha hnil hl hL
  go_enter Try.func19, Try.ntmps19
  go_wp2_with (first | (at_builtin; refine wpList_append_run _ rfl (.tmp 4) (.tmp 5) 28 28 rfl _ _ rfl rfl hrun ?_) | (go_at_call 32; refine HS.out.mono ?_; rintro e w3 ⟨rfl, h1, h2⟩; have H1 := hid h1; have H2 := hid h2; clear h1 h2 HS))
  go_ret
  exact ⟨_, rfl, H1.out, fun k hk => by cases hk; exact HG.out, HB.out.trans (H2.out.below (B := w.heap.size) HB.out.size fun k e => by rw [e]; exact HG.out)⟩
end Go.Proofs.Ytgimpkbknaopcaa
