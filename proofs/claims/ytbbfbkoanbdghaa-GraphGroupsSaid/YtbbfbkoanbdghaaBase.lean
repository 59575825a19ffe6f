/- Words and lemmas of this seat's own: a world that has changed in some blocks alone, a slice of pairs as cells. No statement is proved here. -/
import Derived.WalkKit
import Derived.Deep.Draws
import Derived.Deep.QuietTactic
import Derived.BigQuiet
import Derived.WalkLawsBesides
import Derived.KernelRfl
set_option linter.unusedVariables false
set_option linter.unusedSimpArgs false
namespace Go.Proofs.Ytbbfbkoanbdghaa
open Go.RowKit

theorem hid {p : Prop} (h : p) : Hid p := h

/-- w' is w but for the blocks of S, and with new blocks. -/
structure Upd (S : Nat → Prop) (w w' : World) : Prop where
  os : w'.os = w.os
  tape : w'.tape = w.tape
  output : w'.output = w.output
  size : w.heap.size ≤ w'.heap.size
  block : ∀ k, k < w.heap.size → ¬ S k → w'.heap[k]? = w.heap[k]?

theorem Upd.refl (S : Nat → Prop) (w : World) : Upd S w w := ⟨rfl, rfl, rfl, Nat.le_refl _, fun _ _ _ => rfl⟩
theorem Upd.mono {S T : Nat → Prop} {w w' : World} (h : Upd S w w') (hst : ∀ k, k < w.heap.size → S k → T k) : Upd T w w' :=
  ⟨h.os, h.tape, h.output, h.size, fun k hk ht => h.block k hk fun hs => ht (hst k hk hs)⟩
/-- Two steps: the second's blocks are of the first's, or new. -/
theorem Upd.trans {S T : Nat → Prop} {a b c : World} (h : Upd S a b) (k : Upd T b c) (hst : ∀ i, i < a.heap.size → T i → S i) : Upd S a c :=
  ⟨k.os.trans h.os, k.tape.trans h.tape, k.output.trans h.output, Nat.le_trans h.size k.size, fun i hi hs =>
    (k.block i (Nat.lt_of_lt_of_le hi h.size) (fun ht => hs (hst i hi ht))).trans (h.block i hi hs)⟩
theorem Upd.drew {S : Nat → Prop} {a w : World} (h : Upd S a w) : Upd S a w.drew := ⟨h.os, h.tape, h.output, h.size, h.block⟩
theorem Upd.alloc {S : Nat → Prop} {a w : World} (h : Upd S a w) (o : Obj) : Upd S a (w.alloc o) :=
  ⟨h.os, h.tape, h.output, by have := h.size; simp; omega, fun k hk hs => (Below.heap_alloc w o k (Nat.lt_of_lt_of_le hk h.size)).trans (h.block k hk hs)⟩
theorem Upd.setCell {S : Nat → Prop} {a w : World} (h : Upd S a w) {p : Addr} (hp : p.block < a.heap.size → S p.block) (u : Value) : Upd S a (w.setCell p u) :=
  ⟨h.os, h.tape, h.output, by have := h.size; simp [World.setCell]; omega, fun k hk hs =>
    (Below.heap_setCell w p u k (fun e => hs (by subst e; exact hp hk))).trans (h.block k hk hs)⟩
theorem Upd.below {S : Nat → Prop} {B : Nat} {w w' : World} (h : Upd S w w') (hB : B ≤ w.heap.size) (hs : ∀ k, S k → B ≤ k) : Below B w w' :=
  ⟨h.os, h.tape, h.output, h.size, fun k hk => h.block k (Nat.lt_of_lt_of_le hk hB) fun hk' => by have := hs k hk'; omega⟩
theorem Upd.of_below {B : Nat} {w w' : World} (h : Below B w w') : Upd (fun k => B ≤ k) w w' :=
  ⟨h.os, h.tape, h.output, h.size, fun k _ hs => h.block k (by omega)⟩
theorem Upd.of_new {S : Nat → Prop} {w w' : World} (h : Below w.heap.size w w') : Upd S w w' :=
  ⟨h.os, h.tape, h.output, h.size, fun k hk _ => h.block k hk⟩
theorem Upd.of_grown {w w' : World} {row : Option Nat} (h : w.grownBy w' row) : Upd (fun k => row = some k) w w' :=
  ⟨h.os, h.tape, h.output, h.size, fun k hk hs => h.block k hk fun e => hs e.symm⟩
theorem Upd.cell {S : Nat → Prop} {w w' : World} (h : Upd S w w') {p : Addr} (hp : p.block < w.heap.size) (hs : ¬ S p.block) : w'.cell? p = w.cell? p :=
  World.cell?_of_block (w := w) (h.block p.block hp hs)
theorem Upd.frozen {S : Nat → Prop} {w w' : World} (h : Upd S w w') {p : Addr} (hp : p.block < w.heap.size) (hs : ¬ S p.block) : w'.frozen? p = w.frozen? p :=
  World.frozen?_of_block (w := w) (h.block p.block hp hs)
theorem drewN_heap (w : World) (n : Nat) : (w.drewN n).heap = w.heap := rfl
theorem Below.drewN {B : Nat} {a w : World} (h : Below B a w) (n : Nat) : Below B a (w.drewN n) := ⟨h.os, h.tape, h.output, h.size, h.block⟩
theorem Upd.drewN {S : Nat → Prop} {a w : World} (h : Upd S a w) (n : Nat) : Upd S a (w.drewN n) := ⟨h.os, h.tape, h.output, h.size, h.block⟩

theorem Upd.setRow {S : Nat → Prop} {a w : World} (h : Upd S a w) (g : Nat) (hg : S g) (c : Array Value) : Upd S a (w.setRow g c) :=
  ⟨h.os, h.tape, h.output, by have := h.size; simp; omega, fun k hk hs => (setRow_other w g k c (fun e => hs (by subst e; exact hg))).trans (h.block k hk hs)⟩

theorem bcell {B : Nat} {W w1 : World} (hb : Below B W w1) : (∀ b o, b < B → w1.cell? ⟨b, o, none⟩ = W.cell? ⟨b, o, none⟩) ∧ (∀ b o, b < B → w1.frozen? ⟨b, o, none⟩ = W.frozen? ⟨b, o, none⟩) :=
  ⟨fun b o h => hb.cell (p := ⟨b, o, none⟩) h, fun b o h => hb.frozen (p := ⟨b, o, none⟩) h⟩

theorem blk_lt {w : World} {b : Nat} {o : Obj} (h : w.heap[b]? = some o) : b < w.heap.size := (Array.getElem?_eq_some_iff.1 h).1
theorem blk_cell {w : World} {b : Nat} {cs : Array Value} {t : TypeId} {f : Nat × Nat} (h : w.heap[b]? = some (.cells cs t f)) (i : Nat) :
    w.cell? ⟨b, i, none⟩ = cs[i]? := by simp [World.cell?, h]
theorem blk_free {w : World} {b : Nat} {cs : Array Value} {t : TypeId} (h : w.heap[b]? = some (.cells cs t (0, 0))) (i : Nat) :
    w.frozen? ⟨b, i, none⟩ = false := by simp [World.frozen?, h]

/-- The cells of a list of pairs of ints. -/
def cells2 : List (Int × Int) → List Value
  | [] => []
  | h :: r => .int .i64 h.1 :: .int .i64 h.2 :: cells2 r

theorem cells2_length : ∀ hs : List (Int × Int), (cells2 hs).length = hs.length * 2
  | [] => rfl
  | _ :: r => by simp [cells2, cells2_length r]; omega
theorem cells2_append : ∀ a b : List (Int × Int), cells2 (a ++ b) = cells2 a ++ cells2 b
  | [], _ => rfl
  | h :: r, b => by simp [cells2, cells2_append r b]
theorem cells2_take : ∀ (hs : List (Int × Int)) (k : Nat), (cells2 hs).take (k * 2) = cells2 (hs.take k)
  | [], k => by simp [cells2]
  | h :: r, 0 => by simp [cells2]
  | h :: r, k + 1 => by rw [show (k + 1) * 2 = k * 2 + 2 by omega]; simp [cells2, cells2_take r k]
theorem cells2_drop : ∀ (hs : List (Int × Int)) (k : Nat), (cells2 hs).drop (k * 2) = cells2 (hs.drop k)
  | [], k => by simp [cells2]
  | h :: r, 0 => by simp [cells2]
  | h :: r, k + 1 => by rw [show (k + 1) * 2 = k * 2 + 2 by omega]; simp [cells2, cells2_drop r k]
theorem cells2_get0 : ∀ (hs : List (Int × Int)) (k : Nat) (h : k < hs.length), (cells2 hs)[k * 2]? = some (.int .i64 (hs[k]).1)
  | h :: r, 0, _ => by simp [cells2]
  | h :: r, k + 1, hk => by rw [show (k + 1) * 2 = k * 2 + 2 by omega]; simp [cells2, cells2_get0 r k (by simpa using hk)]
theorem cells2_get1 : ∀ (hs : List (Int × Int)) (k : Nat) (h : k < hs.length), (cells2 hs)[k * 2 + 1]? = some (.int .i64 (hs[k]).2)
  | h :: r, 0, _ => by simp [cells2]
  | h :: r, k + 1, hk => by rw [show (k + 1) * 2 + 1 = k * 2 + 1 + 2 by omega]; simp [cells2, cells2_get1 r k (by simpa using hk)]
theorem cells2_oneCell : ∀ (hs : List (Int × Int)), ∀ u ∈ cells2 hs, u.oneCell' = true
  | [], u, h => by simp [cells2] at h
  | x :: r, u, h => by
    simp only [cells2, List.mem_cons] at h
    rcases h with rfl | rfl | h
    · rfl
    · rfl
    · exact cells2_oneCell r u h
end Go.Proofs.Ytbbfbkoanbdghaa
