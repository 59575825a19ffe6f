/- Two writers of one device and space. No statement is proved here. -/
import Derived.Test.YtkhejipcclpknaaUI
set_option linter.unusedVariables false
set_option linter.unusedSimpArgs false
namespace Go.Proofs.Ytkhejipcclpknaa
section
open Go.RowKit


/-- A writer beside another one that writes or closes. -/
theorem WOn.other {w w' : World} {p q s : Nat} {d : Dl} {o2 o2' o1 o1' os o3 o3' os3 : Option Nat} {n : Nat} {F F1 : Int → Bool} {W2 W1 W1' Wx : Wt} {D D1 : Dv} {acc2 : List Int} {full2 : List Nat} (hb : WOn w p s d o2 o2' os n F W2 D acc2 full2) (st : WhStep w w' q s d o1 o1' os o3 o3' os3)
    (hx : ∀ k, wS p o2 o2' k → ¬ wS q o1 o1' k) (m' : Wh w' q s d o3 o3' os3 n F1 Wx D1) (k : WSt D D1 F F1 W1 W1') (nf : NoF D1) (ml : D1.mem.length = D1.unit * D1.scr) (dj : ∀ b ∈ W2.blocks, b ∉ W1.blocks) (c0 : 0 ≤ D1.cw) (c1 : D1.cw ≤ 1000000000) : WOn w' p s d o2 o2' os3 n F1 W2 D1 acc2 full2 := by
  obtain ⟨N, n1, n2, n3⟩ := k.nb
  have hN : ∀ b ∈ W2.blocks, b ∉ N := fun b hbb hn => by
    have h1 := n3 b hn
    rw [(hb.good.bf b hbb).2] at h1
    cases h1
  have hkeep : ∀ b ∈ W2.blocks, D1.mblk b = D.mblk b := fun b hbb => k.kp b (by rw [hb.good.sc]; exact (hb.good.bf b hbb).1) (by
    rw [n1]
    intro h
    rcases List.mem_append.1 h with h | h
    · exact dj b hbb h
    · exact hN b hbb h)
  refine ⟨⟨hb.mem.wt.upd st.up fun i hi hh => ?_, m'.dv, m'.sp, ⟨hb.mem.ap.wd, fun i hi hs => ?_, m'.ap.ds⟩⟩, ⟨nf, hb.good.u.trans k.un.symm, by rw [k.un]; exact hb.good.u0, ml, k.sc.trans hb.good.sc, hb.good.sz, hb.good.bk, ?_, by rw [k.un]; exact hb.good.bu, hb.good.nd, fun b hbb => ⟨(hb.good.bf b hbb).1, by rw [n2, (hb.good.bf b hbb).2]; rfl⟩⟩, hb.fa, hb.cl, c0, c1⟩
  · rcases hh with h | h | h
    · exact hx i hi h
    · exact hb.mem.ap.wd i hi h
    · exact hb.mem.ap.ws i hi h
  · have hlt := hb.mem.wt.lt i hi
    rcases hs with e | e
    · exact hb.mem.ap.ws i hi (.inl e)
    · rcases st.h3 i e with e | e
      · exact hb.mem.ap.ws i hi (.inr e)
      · omega
  · rw [hb.good.ac]
    congr 1
    rw [List.flatMap_def, List.flatMap_def]
    congr 1
    exact (List.map_congr_left fun b hbb => hkeep b (hb.good.fb b hbb)).symm
theorem wS_heir {w : World} {p : Nat} {o o' o1 o1' : Option Nat} (h1 : Heir w o o1) (h2 : Heir w o' o1') (k : Nat) (hk : k < w.heap.size) (h : wS p o1 o1' k) : wS p o o' k := by
  rcases h with h | h | h
  · exact .inl h
  · rcases h1 k h with e | e
    · exact .inr (.inl e)
    · omega
  · rcases h2 k h with e | e
    · exact .inr (.inr e)
    · omega
/-- Two writers. -/
structure WW (w : World) (d : Dl) (s : Nat) (os : Option Nat) (n : Nat) (F : Int → Bool) (D : Dv) (p1 : Nat) (o1 o1' : Option Nat) (W1 : Wt) (a1 : List Int) (f1 : List Nat) (p2 : Nat) (o2 o2' : Option Nat) (W2 : Wt) (a2 : List Int) (f2 : List Nat) : Prop where
  a : WOn w p1 s d o1 o1' os n F W1 D a1 f1
  b : WOn w p2 s d o2 o2' os n F W2 D a2 f2
  ap : ∀ k, wS p1 o1 o1' k → ¬ wS p2 o2 o2' k
  dj : ∀ b ∈ W1.blocks, b ∉ W2.blocks
  cw : D.cw = f1.length + f2.length
  ct : cntB F n + W1.blocks.length + W2.blocks.length = (n : Int)
  cs : D.cs = 0
theorem WW.swap {w : World} {d : Dl} {s : Nat} {os : Option Nat} {n : Nat} {F : Int → Bool} {D : Dv} {p1 : Nat} {o1 o1' : Option Nat} {W1 : Wt} {a1 : List Int} {f1 : List Nat} {p2 : Nat} {o2 o2' : Option Nat} {W2 : Wt} {a2 : List Int} {f2 : List Nat} (h : WW w d s os n F D p1 o1 o1' W1 a1 f1 p2 o2 o2' W2 a2 f2) : WW w d s os n F D p2 o2 o2' W2 a2 f2 p1 o1 o1' W1 a1 f1 :=
  ⟨h.b, h.a, fun k hk hk' => h.ap k hk' hk, fun b hb hb' => h.dj b hb' hb, by rw [h.cw]; omega, by have := h.ct; omega, h.cs⟩
theorem WW.below {w w' : World} {d : Dl} {s : Nat} {os : Option Nat} {n : Nat} {F : Int → Bool} {D : Dv} {p1 : Nat} {o1 o1' : Option Nat} {W1 : Wt} {a1 : List Int} {f1 : List Nat} {p2 : Nat} {o2 o2' : Option Nat} {W2 : Wt} {a2 : List Int} {f2 : List Nat} (h : WW w d s os n F D p1 o1 o1' W1 a1 f1 p2 o2 o2' W2 a2 f2) (hb : Below w.heap.size w w') : WW w' d s os n F D p1 o1 o1' W1 a1 f1 p2 o2 o2' W2 a2 f2 :=
  ⟨h.a.below hb, h.b.below hb, h.ap, h.dj, h.cw, h.ct, h.cs⟩
/-- The first of the two writes. -/
theorem WW.write {w w' : World} {d : Dl} {s : Nat} {os : Option Nat} {n : Nat} {F : Int → Bool} {D : Dv} {p1 : Nat} {o1 o1' : Option Nat} {W1 : Wt} {a1 : List Int} {f1 : List Nat} {p2 : Nat} {o2 o2' : Option Nat} {W2 : Wt} {a2 : List Int} {f2 : List Nat} (h : WW w d s os n F D p1 o1 o1' W1 a1 f1 p2 o2 o2' W2 a2 f2)
    {o3 o3' os3 : Option Nat} {F3 : Int → Bool} {W3 : Wt} {D3 : Dv} {a3 : List Int} {f3 : List Nat} (hw : WOn w' p1 s d o3 o3' os3 n F3 W3 D3 a3 f3) (st : WhStep w w' p1 s d o1 o1' os o3 o3' os3) (hs : WSt D D3 F F3 W1 W3) (hcw : D3.cw - f3.length = D.cw - f1.length) (hct : cntB F3 n + W3.blocks.length = cntB F n + W1.blocks.length) :
    WW w' d s os3 n F3 D3 p1 o3 o3' W3 a3 f3 p2 o2 o2' W2 a2 f2 := by
  obtain ⟨N, n1, n2, n3⟩ := hs.nb
  refine ⟨hw, h.b.other st (fun k hk hk' => h.ap k hk' hk) hw.mem hs hw.good.nf hw.good.ml (fun b hb hb' => h.dj b hb' hb) hw.c0 hw.c1, fun k hk hk' => ?_, fun b hb hb' => ?_, ?_, ?_, by rw [hs.cs]; exact h.cs⟩
  · have hlt := h.b.mem.wt.lt k hk'
    exact h.ap k (wS_heir st.h1 st.h2 k hlt hk) hk'
  · rw [n1] at hb
    rcases List.mem_append.1 hb with hb | hb
    · exact h.dj b hb hb'
    · have h1 := n3 b hb
      rw [(h.b.good.bf b hb').2] at h1
      cases h1
  · have := h.cw
    omega
  · have := h.ct
    omega
/-- Room for both. -/
theorem WW.room {w : World} {d : Dl} {s : Nat} {os : Option Nat} {n : Nat} {F : Int → Bool} {D : Dv} {p1 : Nat} {o1 o1' : Option Nat} {W1 : Wt} {a1 : List Int} {f1 : List Nat} {p2 : Nat} {o2 o2' : Option Nat} {W2 : Wt} {a2 : List Int} {f2 : List Nat} (h : WW w d s os n F D p1 o1 o1' W1 a1 f1 p2 o2 o2' W2 a2 f2) (hn : n = 4096) (k : Nat) (hk : a1.length + k ≤ 30000) (ha : a2.length ≤ 30000) : ((a1.length + k : Nat) : Int) ≤ (cntB F n + W1.blocks.length) * D.unit := by
  have hu := h.a.mem.dv.u0
  have hl2 := h.b.good.len
  have hb2 : W2.blocks.length * 16 ≤ a2.length + 16 := by
    have h16 : f2.length * 16 ≤ f2.length * D.unit := Nat.mul_le_mul_left _ hu
    rcases h.b.good.bk with ⟨_, e⟩ | ⟨_, b, e⟩
    · rw [e]; omega
    · rw [e]; simp; omega
  have hct := h.ct
  have h1 : (2000 : Int) ≤ cntB F n + W1.blocks.length := by omega
  have h2 : (2000 : Int) * 16 ≤ (cntB F n + W1.blocks.length) * D.unit := Int.mul_le_mul h1 (by omega) (by omega) (by omega)
  omega
theorem hd_need {U L : Nat} (hu : 0 < U) : hd U L + 1 = ((needN L U : Nat) : Int) := by
  unfold hd
  by_cases h0 : L = 0
  · subst h0
    rw [if_pos rfl]
    unfold needN
    simp
  · rw [if_neg h0]
    have hdm := Nat.div_add_mod L U
    have hm := Nat.mod_lt L hu
    by_cases hz : L % U = 0
    · have e : L = L / U * U := by rw [Nat.mul_comm]; omega
      rw [need_exact hu e]
      have hq : 1 ≤ L / U := by
        rcases Nat.eq_zero_or_pos (L / U) with h | h
        · rw [h] at e; omega
        · exact h
      have e2 : (L - 1) / U = L / U - 1 := by
        have : L - 1 = (U - 1) + (L / U - 1) * U := by
          have : L / U * U = (L / U - 1) * U + U := by
            conv => lhs; rw [show L / U = (L / U - 1) + 1 by omega, Nat.add_mul, Nat.one_mul]
          omega
        rw [this, Nat.add_mul_div_right _ _ hu, Nat.div_eq_of_lt (by omega), Nat.zero_add]
      rw [e2]
      omega
    · have e : L = L / U * U + L % U := by rw [Nat.mul_comm]; omega
      rw [need_part hm e (by omega)]
      have e2 : (L - 1) / U = L / U := by
        have : L - 1 = (L % U - 1) + L / U * U := by omega
        rw [this, Nat.add_mul_div_right _ _ hu, Nat.div_eq_of_lt (by omega), Nat.zero_add]
      rw [e2]
      omega

end

section
open Go.RowKit


def tot (q : Nat → Option Addr × List Int × Nat) : Nat → Nat
  | 0 => 0
  | i + 1 => tot q i + (q i).2.1.length
/-- A row of bytes beside a set of blocks. -/
structure Sd (w : World) (S : Nat → Prop) (a : Option Addr) (n c : Nat) (l : List Int) : Prop where
  ln : n = l.length
  ow : w.ownsRow 0 5 1 (.slice a n c) n (cellsB l)
  ne : ∀ k, (Value.slice a n c).ownBlock = some k → ¬ S k
theorem Sd.lt {w : World} {S : Nat → Prop} {a : Option Addr} {n c : Nat} {l : List Int} (h : Sd w S a n c l) : ∀ k, (Value.slice a n c).ownBlock = some k → k < w.heap.size := fun k hk => by
  rcases h.ow.2 with ⟨hh, _⟩ | ⟨b, cap, cur, hh, _, hg, _⟩
  · rw [hh] at hk; cases hk
  · rw [hh] at hk
    cases hk
    exact blk_lt hg
theorem Sd.upd {w w' : World} {S T : Nat → Prop} {a : Option Addr} {n c : Nat} {l : List Int} (h : Sd w S a n c l) (u : Upd S w w') (hT : ∀ k, k < w.heap.size → T k → S k) : Sd w' T a n c l :=
  ⟨h.ln, own_same h.ow fun k hk => u.block k (h.lt k hk) (h.ne k hk), fun k hk ht => h.ne k hk (hT k (h.lt k hk) ht)⟩
theorem Sd.below {w w' : World} {S : Nat → Prop} {a : Option Addr} {n c : Nat} {l : List Int} (h : Sd w S a n c l) (hb : Below w.heap.size w w') : Sd w' S a n c l :=
  ⟨h.ln, own_same h.ow fun k hk => hb.block k (h.lt k hk), h.ne⟩
theorem own_le {w : World} {B : Nat} {e : TypeId} {size : Nat} {a : Option Addr} {n c : Nat} {xs : List Value} (h : w.ownsRow B e size (.slice a n c) n xs) : n ≤ c := by
  rcases h.2 with ⟨hh, h0⟩ | ⟨b, cap, cur, hh, _, _, hle, _⟩
  · omega
  · cases hh
    exact hle
/-- The blocks of both writers, the device and the space. -/
def AS (d : Dl) (s : Nat) (os : Option Nat) (p1 : Nat) (o1 o1' : Option Nat) (p2 : Nat) (o2 o2' : Option Nat) (k : Nat) : Prop := allS p1 o1 o1' d s os k ∨ wS p2 o2 o2' k
theorem AS.swap {d : Dl} {s : Nat} {os : Option Nat} {p1 : Nat} {o1 o1' : Option Nat} {p2 : Nat} {o2 o2' : Option Nat} {k : Nat} (h : AS d s os p1 o1 o1' p2 o2 o2' k) : AS d s os p2 o2 o2' p1 o1 o1' k := by
  rcases h with (h | h | h) | h
  · exact .inr h
  · exact .inl (.inr (.inl h))
  · exact .inl (.inr (.inr h))
  · exact .inl (.inl h)
structure BK (w wr : World) (d : Dl) (s : Nat) (os : Option Nat) (F : Int → Bool) (D : Dv) (p1 : Nat) (o1 o1' : Option Nat) (W1 : Wt) (a1 : List Int) (f1 : List Nat) (p2 : Nat) (o2 o2' : Option Nat) (W2 : Wt) (b1 : List Int) (f2 : List Nat) (av : Option Addr) (an ac : Nat) (bv : Option Addr) (bn bc : Nat) : Prop where
  ww : WW wr d s os 4096 F D p1 o1 o1' W1 a1 f1 p2 o2 o2' W2 b1 f2
  sa : Sd wr (AS d s os p1 o1 o1' p2 o2 o2') av an ac a1
  sb : Sd wr (AS d s os p1 o1 o1' p2 o2 o2') bv bn bc b1
  ab : ∀ k, (Value.slice av an ac).ownBlock = some k → (Value.slice bv bn bc).ownBlock ≠ some k
  be : Below w.heap.size w wr
  nw : ∀ k, AS d s os p1 o1 o1' p2 o2 o2' k → w.heap.size ≤ k
  nv : ∀ k, ((Value.slice av an ac).ownBlock = some k ∨ (Value.slice bv bn bc).ownBlock = some k) → w.heap.size ≤ k
section
variable {w wr : World} {d : Dl} {s : Nat} {os : Option Nat} {F : Int → Bool} {D : Dv} {p1 : Nat} {o1 o1' : Option Nat} {W1 : Wt} {a1 : List Int} {f1 : List Nat} {p2 : Nat} {o2 o2' : Option Nat} {W2 : Wt} {b1 : List Int} {f2 : List Nat} {av : Option Addr} {an ac : Nat} {bv : Option Addr} {bn bc : Nat}
theorem BK.swap (h : BK w wr d s os F D p1 o1 o1' W1 a1 f1 p2 o2 o2' W2 b1 f2 av an ac bv bn bc) : BK w wr d s os F D p2 o2 o2' W2 b1 f2 p1 o1 o1' W1 a1 f1 bv bn bc av an ac :=
  ⟨h.ww.swap, ⟨h.sb.ln, h.sb.ow, fun k hk hs => h.sb.ne k hk hs.swap⟩, ⟨h.sa.ln, h.sa.ow, fun k hk hs => h.sa.ne k hk hs.swap⟩, fun k hk hk' => h.ab k hk' hk, h.be, fun k hk => h.nw k hk.swap, fun k hk => h.nv k hk.symm⟩
theorem BK.below {w' : World} (h : BK w wr d s os F D p1 o1 o1' W1 a1 f1 p2 o2 o2' W2 b1 f2 av an ac bv bn bc) (hb : Below wr.heap.size wr w') : BK w w' d s os F D p1 o1 o1' W1 a1 f1 p2 o2 o2' W2 b1 f2 av an ac bv bn bc :=
  ⟨h.ww.below hb, h.sa.below hb, h.sb.below hb, h.ab, h.be.trans (hb.mono h.be.size), h.nw, h.nv⟩
theorem BK.lt (h : BK w wr d s os F D p1 o1 o1' W1 a1 f1 p2 o2 o2' W2 b1 f2 av an ac bv bn bc) : ∀ k, AS d s os p1 o1 o1' p2 o2 o2' k → k < wr.heap.size := fun k hk => by
  rcases hk with hk | hk
  · exact h.ww.a.mem.lt k hk
  · exact h.ww.b.mem.wt.lt k hk
/-- The first writes. -/
theorem BK.write {w' : World} (h : BK w wr d s os F D p1 o1 o1' W1 a1 f1 p2 o2 o2' W2 b1 f2 av an ac bv bn bc) {o3 o3' os3 : Option Nat} {F3 : Int → Bool} {W3 : Wt} {D3 : Dv} {l : List Int} {f3 : List Nat} (hw : WOn w' p1 s d o3 o3' os3 4096 F3 W3 D3 (a1 ++ l) f3) (st : WhStep wr w' p1 s d o1 o1' os o3 o3' os3) (hs : WSt D D3 F F3 W1 W3) (hcw : D3.cw - f3.length = D.cw - f1.length) (hct : cntB F3 4096 + W3.blocks.length = cntB F 4096 + W1.blocks.length) :
    WW w' d s os3 4096 F3 D3 p1 o3 o3' W3 (a1 ++ l) f3 p2 o2 o2' W2 b1 f2 ∧ Sd w' (AS d s os3 p1 o3 o3' p2 o2 o2') av an ac a1 ∧ Sd w' (AS d s os3 p1 o3 o3' p2 o2 o2') bv bn bc b1 ∧ Below w.heap.size w w' ∧ (∀ k, AS d s os3 p1 o3 o3' p2 o2 o2' k → w.heap.size ≤ k) := by
  have hT : ∀ k, k < wr.heap.size → AS d s os3 p1 o3 o3' p2 o2 o2' k → AS d s os p1 o1 o1' p2 o2 o2' k := fun k hk hh => hh.imp (allS_heir st.h1 st.h2 st.h3 k hk) id
  have hU : Upd (AS d s os p1 o1 o1' p2 o2 o2') wr w' := st.up.mono fun k _ hh => .inl hh
  refine ⟨h.ww.write hw st hs hcw hct, h.sa.upd hU hT, h.sb.upd hU hT, h.be.trans (hU.below (B := w.heap.size) h.be.size h.nw), fun k hk => ?_⟩
  by_cases hlt : k < wr.heap.size
  · exact h.nw k (hT k hlt hk)
  · have := h.be.size
    omega
/-- What the first was given is noted. -/
theorem bk_take {l : List Int} {n c : Nat} {sa : Option Addr} (ww : WW wr d s os 4096 F D p1 o1 o1' W1 (a1 ++ l) f1 p2 o2 o2' W2 b1 f2) (ha : Sd wr (AS d s os p1 o1 o1' p2 o2 o2') av an ac a1) (hb : Sd wr (AS d s os p1 o1 o1' p2 o2 o2') bv bn bc b1) (hab : ∀ k, (Value.slice av an ac).ownBlock = some k → (Value.slice bv bn bc).ownBlock ≠ some k) (hbe : Below w.heap.size w wr) (hnw : ∀ k, AS d s os p1 o1 o1' p2 o2 o2' k → w.heap.size ≤ k) (hnv : ∀ k, ((Value.slice av an ac).ownBlock = some k ∨ (Value.slice bv bn bc).ownBlock = some k) → w.heap.size ≤ k)
    (hl : l.length = n) (hby : BytesIn wr sa l) (hsz : an + n ≤ 100000000) :
    ∃ a' c' w1, (Builtin.append_ #[22, 22] 22 #[.slice av an ac, .slice sa n c]).run Try.prog wr = .ok (.slice a' (an + n) c') w1 ∧ BK w w1 d s os F D p1 o1 o1' W1 (a1 ++ l) f1 p2 o2 o2' W2 b1 f2 a' (an + n) c' bv bn bc := by
  obtain ⟨a', c', w1, k1, k2, k3, k4⟩ := app_slc ha.ow ha.ln (Nat.zero_le _) sa n c l hl hby hsz
  have UP := Upd.of_grown k3
  have hlt : ∀ k, AS d s os p1 o1 o1' p2 o2 o2' k → k < wr.heap.size := fun k hk => by
    rcases hk with hk | hk
    · exact ww.a.mem.lt k hk
    · exact ww.b.mem.wt.lt k hk
  have hnS : ∀ k, AS d s os p1 o1 o1' p2 o2 o2' k → ¬ ((Value.slice av an ac).ownBlock = some k) := fun k hk e => ha.ne k e hk
  refine ⟨a', c', w1, k1, ⟨⟨⟨ww.a.mem.beside UP fun k hk => hnS k (.inl hk), ww.a.good, ww.a.fa, ww.a.cl, ww.a.c0, ww.a.c1⟩, ⟨ww.b.mem.beside UP fun k hk => hnS k ?_, ww.b.good, ww.b.fa, ww.b.cl, ww.b.c0, ww.b.c1⟩, ww.ap, ww.dj, ww.cw, ww.ct, ww.cs⟩, ⟨by rw [List.length_append, ha.ln, hl], k2, fun k hk hh => ?_⟩, ⟨hb.ln, own_same hb.ow fun k hk => UP.block k (hb.lt k hk) fun e => hab k e hk, hb.ne⟩, fun k hk hk' => ?_, hbe.trans (UP.below (B := w.heap.size) hbe.size fun k hk => hnv k (.inl hk)), hnw, fun k hk => ?_⟩⟩
  · rcases hk with hk | hk | hk
    · exact .inr hk
    · exact .inl (.inr (.inl hk))
    · exact .inl (.inr (.inr hk))
  · rcases k4 with e | e
    · exact ha.ne k (e.symm.trans hk) hh
    · rw [e] at hk
      have e2 : wr.heap.size = k := Option.some.inj hk
      have := hlt k hh
      omega
  · rcases k4 with e | e
    · exact hab k (e.symm.trans hk) hk'
    · rw [e] at hk
      have e2 : wr.heap.size = k := Option.some.inj hk
      have := hb.lt k hk'
      omega
  · rcases hk with hk | hk
    · rcases k4 with e | e
      · exact hnv k (.inl (e.symm.trans hk))
      · rw [e] at hk
        have e2 : wr.heap.size = k := Option.some.inj hk
        have := hbe.size
        omega
    · exact hnv k (.inr hk)
end

end
end Go.Proofs.Ytkhejipcclpknaa
