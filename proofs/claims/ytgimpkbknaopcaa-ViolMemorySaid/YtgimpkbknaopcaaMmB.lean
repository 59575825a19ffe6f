/- Rows of violations: marking and appending, step by step. No statement is proved here. -/
import Derived.Test.YtgimpkbknaopcaaMmA
set_option linter.unusedVariables false
set_option linter.unusedSimpArgs false
namespace Go.Proofs.Ytgimpkbknaopcaa
open Go.RowKit

theorem set_allV {α : Type} {l : List α} {x : α} {k : Nat} (hk : k < l.length) : ((List.replicate k x) ++ l.drop k).set k x = List.replicate (k + 1) x ++ l.drop (k + 1) := by
  apply List.ext_getElem?
  intro j
  rw [List.getElem?_set]
  simp only [List.length_append, List.length_replicate, List.length_drop]
  by_cases h1 : k = j
  · subst h1
    rw [if_pos rfl, if_pos (by omega), List.getElem?_append_left (by simp)]
    simp
  · rw [if_neg h1]
    by_cases h2 : j < k
    · rw [List.getElem?_append_left (by simp; omega), List.getElem?_append_left (by simp; omega)]
      simp [h2, show j < k + 1 by omega]
    · rw [List.getElem?_append_right (by simp; omega), List.getElem?_append_right (by simp; omega)]
      simp only [List.length_replicate, List.getElem?_drop]
      congr 1
      omega
/-- The rows, those below i marked, of row i the first k. -/
def mkR (m : Nat → List V) (i k q : Nat) : List V := if q < i then List.replicate (m q).length (mkV (20 + q)) else if q = i then List.replicate k (mkV (20 + i)) ++ (m i).drop k else m q
theorem mkR_zero (m : Nat → List V) : mkR m 0 0 = m := by
  funext q
  unfold mkR
  rw [if_neg (by omega)]
  split
  · rename_i h
    rw [h]
    simp
  · rfl
theorem mkR_next (m : Nat → List V) (i : Nat) : mkR m i (m i).length = mkR m (i + 1) 0 := by
  funext q
  unfold mkR
  by_cases h1 : q < i
  · rw [if_pos h1, if_pos (by omega)]
  · rw [if_neg h1]
    by_cases h2 : q = i
    · rw [if_pos h2, if_pos (by omega), h2]
      simp
    · rw [if_neg h2, if_neg (by omega)]
      split
      · rename_i h3
        rw [h3]
        simp
      · rfl
theorem mkR_set {m : Nat → List V} {i k : Nat} (hk : k < (m i).length) : (fun q => if q = i then (mkR m i k i).set k (mkV (20 + i)) else mkR m i k q) = mkR m i (k + 1) := by
  funext q
  by_cases h2 : q = i
  · subst h2
    unfold mkR
    rw [if_pos rfl, if_neg (by omega), if_pos rfl, if_neg (by omega), if_pos rfl]
    exact set_allV hk
  · unfold mkR
    rw [if_neg h2]
    by_cases h1 : q < i
    · rw [if_pos h1, if_pos h1]
    · rw [if_neg h1, if_neg h1, if_neg h2, if_neg h2]
theorem RowsV.mark {w : World} {lb N : Nat} {ad : Nat → Option Addr} {M cc : Nat → Nat} {m : Nat → List V} {i k g : Nat} (h : RowsV w lb N ad M cc (mkR m i k)) (hM : M i = (m i).length) (hi : i < N) (hk : k < M i) (hg : ad i = some ⟨g, 0, none⟩) : RowsV (w.setCells g (k * 12) (mkV (20 + i)).cs) lb N ad M cc (mkR m i (k + 1)) := by
  have := h.set hi hk hg (mkV (20 + i))
  rw [mkR_set (by omega)] at this
  exact this
theorem own_vinS {w : World} {a : Option Addr} {n c : Nat} {l : List V} (h : OwnV w (.slice a n c) l) : VIn w a l := by
  obtain ⟨a', c', e, hv⟩ := own_vin h
  cases e
  exact hv
/-- The same list, where the first i rows were appended to. -/
structure MidV (w : World) (lb N : Nat) (ad : Nat → Option Addr) (M cc : Nat → Nat) (ct : Nat → List V) (i : Nat) : Prop where
  lst : ∀ j, j < N → w.cell? ⟨lb, j, none⟩ = some (.slice (ad j) (M j) (cc j))
  lb0 : lb < w.heap.size
  ln : ∀ j, j < N → M j = (ct j).length
  vin : ∀ j, j < N → VIn w (ad j) (ct j)
  row : ∀ j, j < N → i ≤ j → OwnV w (.slice (ad j) (M j) (cc j)) (ct j)
  ne : ∀ j k, j < N → k < N → j ≠ k → ∀ b, (Value.slice (ad j) (M j) (cc j)).ownBlock = some b → (Value.slice (ad k) (M k) (cc k)).ownBlock ≠ some b
  nl : ∀ j, j < N → (Value.slice (ad j) (M j) (cc j)).ownBlock ≠ some lb
theorem RowsV.mid {w : World} {lb N : Nat} {ad : Nat → Option Addr} {M cc : Nat → Nat} {ct : Nat → List V} (h : RowsV w lb N ad M cc ct) : MidV w lb N ad M cc ct 0 :=
  ⟨h.lst, h.lb0, h.ln, fun j hj => own_vinS (h.row j hj), fun j hj _ => h.row j hj, h.ne, h.nl⟩
structure AppV (w0 wr : World) (ad0 : Option Addr) (M0 c0 : Nat) (out : List V) (a : Option Addr) (n c : Nat) (ex : List V) : Prop where
  own : OwnV wr (.slice a n c) (out ++ ex)
  ln : n = (out ++ ex).length
  ob : ∀ b, (Value.slice a n c).ownBlock = some b → (Value.slice ad0 M0 c0).ownBlock = some b ∨ w0.heap.size ≤ b
  vin : VIn wr ad0 out
  up : Upd (fun k => (Value.slice ad0 M0 c0).ownBlock = some k) w0 wr
theorem MidV.app {w : World} {lb N : Nat} {ad : Nat → Option Addr} {M cc : Nat → Nat} {ct : Nat → List V} {i : Nat} (h : MidV w lb N ad M cc ct i) (hi : i < N) : AppV w w (ad i) (M i) (cc i) (ct i) (ad i) (M i) (cc i) [] :=
  ⟨by rw [List.append_nil]; exact h.row i hi (Nat.le_refl _), by rw [List.append_nil]; exact h.ln i hi, fun b hb => .inl hb, h.vin i hi, Upd.refl _ _⟩
theorem VIn.upd {S : Nat → Prop} {w w' : World} {a : Option Addr} {l : List V} (h : VIn w a l) (u : Upd S w w') (hn : ∀ b o, a = some ⟨b, o, none⟩ → ¬ S b) : VIn w' a l := fun hne => by
  obtain ⟨b, o, rfl, hb, hc⟩ := h hne
  exact ⟨b, o, rfl, Nat.lt_of_lt_of_le hb u.size, fun i hi j hj => (u.cell (p := ⟨b, o + i * 12 + j, none⟩) hb (hn b o rfl)).trans (hc i hi j hj)⟩
theorem VIn.pre {w : World} {a : Option Addr} {l r : List V} (h : VIn w a (l ++ r)) : VIn w a l := by
  have := h.take l.length
  rw [List.take_left'] at this
  · exact this
  · rfl
theorem AppV.step {w0 wr : World} {ad0 : Option Addr} {M0 c0 : Nat} {out : List V} {a : Option Addr} {n c : Nat} {ex : List V} (h : AppV w0 wr ad0 M0 c0 out a n c ex) (hb0 : ∀ b o, ad0 = some ⟨b, o, none⟩ → (Value.slice ad0 M0 c0).ownBlock = some b ∧ o = 0 ∧ b < w0.heap.size) (hn : n + 1 ≤ 1172812402960) (x : V) :
    ∃ a' c' w1, (Builtin.append_ #[28, 28] 28 #[.slice a n c, .slice (some ⟨wr.heap.size, 0, none⟩) 1 1]).run Try.prog (wr.alloc (.cells #[.int .i64 x.kind, .int .i64 x.time, .int .i64 x.txn, .int .i64 x.op, .int .i64 x.wit, .string x.key, .bool x.want, .string x.exp, .bool x.got, .string x.obs, .int .i64 x.frm, .int .i64 x.to] 30)) = .ok (.slice a' (n + 1) c') w1 ∧ AppV w0 w1 ad0 M0 c0 out a' (n + 1) c' (ex ++ [x]) := by
  obtain ⟨w5, hw5⟩ : ∃ w5, wr.alloc (.cells #[.int .i64 x.kind, .int .i64 x.time, .int .i64 x.txn, .int .i64 x.op, .int .i64 x.wit, .string x.key, .bool x.want, .string x.exp, .bool x.got, .string x.obs, .int .i64 x.frm, .int .i64 x.to] 30) = w5 := ⟨_, rfl⟩
  have hal : Below wr.heap.size wr w5 := by rw [← hw5]; exact (Below.refl _ wr).alloc (Nat.le_refl _) _
  have X : w5.heap[wr.heap.size]? = some (.cells x.cs.toArray 30 (0, 0)) := by rw [← hw5]; exact heap_alloc_new wr _
  have hs5 : w5.heap.size = wr.heap.size + 1 := by rw [← hw5]; simp
  rw [hw5]
  clear hw5
  have hs := h.up.size
  obtain ⟨v', w1, k1, k2, k3, k4⟩ := app_viols w5 28 (.slice a n c) (out ++ ex) [x] (ownV_below h.own hal) ⟨wr.heap.size, 0, none⟩ 1 (fun j u hj => by
    rw [Addr.add_lit, Nat.zero_add, blk_cell X]
    simp only [cellsV, List.append_nil] at hj
    simpa using hj) (by have := h.ln; simp only [List.length_cons, List.length_nil]; omega)
  rw [List.append_assoc] at k2
  have hn1 : n + 1 = (out ++ (ex ++ [x])).length := by
    have := h.ln
    simp only [List.length_append, List.length_cons, List.length_nil] at this ⊢
    omega
  have hsl : ∃ a' c', v' = .slice a' (n + 1) c' := by
    rw [hn1]
    rcases k2.2 with ⟨e, e0⟩ | ⟨g, c', cur, e, _⟩
    · exact ⟨none, 0, by rw [e, e0]⟩
    · exact ⟨_, _, e⟩
  obtain ⟨a', c', rfl⟩ := hsl
  have hu : Upd (fun k => (Value.slice ad0 M0 c0).ownBlock = some k) w0 w1 := (h.up.trans (Upd.of_new hal) (fun _ _ e => e)).trans (Upd.of_grown k3) (fun k hk e => by
    rcases h.ob k e with e | e
    · exact e
    · omega)
  refine ⟨a', c', w1, k1, ⟨k2, hn1, fun b hb => ?_, ?_, hu⟩⟩
  · rcases k4 with e | ⟨e, _⟩
    · exact h.ob b (e.symm.trans hb)
    · rw [e] at hb
      cases hb
      exact .inr (by omega)
  · by_cases hno : out = []
    · subst hno
      exact fun hh => absurd rfl hh
    obtain ⟨b, o, e0, hbl, hc⟩ := h.vin hno
    obtain ⟨e1, e2, e3⟩ := hb0 b o e0
    subst e2
    by_cases hob : (Value.slice a' (n + 1) c').ownBlock = some b
    · have ea : a' = some ⟨b, 0, none⟩ := by
        rcases k2.2 with ⟨e, _⟩ | ⟨g, cq, cur, e, _⟩
        · rw [e] at hob
          cases hob
        · rw [e] at hob
          have : g = b := Option.some.inj hob
          rw [(Value.slice.inj e).1, this]
      have := own_vinS k2
      rw [ea, ← e0] at this
      exact this.pre
    · have hv5 : VIn w5 ad0 out := h.vin.below hal
      rcases k4 with e | ⟨e, k5⟩
      · exact hv5.upd (Upd.of_grown k3) (fun b' o' e' hh => by
          rw [e0] at e'
          cases e'
          exact hob (e.trans hh))
      · exact hv5.upd (Upd.of_grown k5) (fun b' o' _ hh => by cases hh)
theorem MidV.next {w0 w1 : World} {lb N : Nat} {ad : Nat → Option Addr} {M cc : Nat → Nat} {ct : Nat → List V} {i : Nat} (h : MidV w0 lb N ad M cc ct i) (hi : i < N) (had : ∀ j, j < N → ∀ b o, ad j = some ⟨b, o, none⟩ → (Value.slice (ad j) (M j) (cc j)).ownBlock = some b) {a : Option Addr} {n c : Nat} {ex : List V} (k : AppV w0 w1 (ad i) (M i) (cc i) (ct i) a n c ex) : MidV w1 lb N ad M cc ct (i + 1) := by
  refine ⟨fun j hj => ?_, Nat.lt_of_lt_of_le h.lb0 k.up.size, h.ln, fun j hj => ?_, fun j hj hij => ?_, h.ne, h.nl⟩
  · exact (k.up.cell (p := ⟨lb, j, none⟩) h.lb0 (fun e => h.nl i hi e)).trans (h.lst j hj)
  · by_cases hji : j = i
    · subst hji
      exact k.vin
    · exact (h.vin j hj).upd k.up (fun b o e hh => h.ne j i hj hi hji b (had j hj b o e) hh)
  · exact ownV_kept (h.row j hj (by omega)) fun b hb => k.up.block b (ownV_lt (h.row j hj (by omega)) b hb) (fun hh => h.ne j i hj hi (by omega) b hb hh)
end Go.Proofs.Ytgimpkbknaopcaa
