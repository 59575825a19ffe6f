/- What StreamBroken does, as plain data: finitely many cases, reckoned. No statement is proved here. -/
import Derived.Test.YtkhejipcclpknaaUF
import Derived.Test.YtkhejipcclpknaaSV
set_option linter.unusedVariables false
set_option linter.unusedSimpArgs false
namespace Go.Proofs.Ytkhejipcclpknaa

def bD (b : Nat) : Dv := ⟨16, 8, List.replicate 100 0, List.replicate (16 * 8) 0, [⟨1, (b : Int), 1, 0⟩, ⟨3, 0, (b : Int) + 1, 0⟩], fun _ _ => 0, 0, 0, 0, 0, false⟩
def bR : Rd := ⟨16, none, 100, 0, -1, [], 0⟩
def bW : Wt := ⟨16, [], [], 0, 0, false⟩
def rdChk (R : Rd) (D : Dv) : Bool := decide (R.unit = D.unit) && decide (R.size ≤ 1000000000) && decide (R.pos ≤ R.size) && R.chain.isNone && decide (R.size = D.inp.length) && (decide (R.held = -1) || (decide (0 ≤ R.held) && decide (min D.unit (R.size - R.held.toNat * D.unit) ≤ R.buf.length)))
theorem rdChk_ok {R : Rd} {D : Dv} (h : rdChk R D = true) : RdOk R D := by
  unfold rdChk at h
  simp only [Bool.and_eq_true, Bool.or_eq_true, decide_eq_true_eq] at h
  obtain ⟨⟨⟨⟨⟨h1, h2⟩, h3⟩, h4⟩, h5⟩, h6⟩ := h
  refine ⟨h1, h2, h3, ?_, ?_⟩
  · cases hc : R.chain with
    | none => exact h5
    | some l => rw [hc] at h4; cases h4
  · rcases h6 with h6 | ⟨h6, h7⟩
    · exact .inl h6
    · exact .inr ⟨R.held.toNat, by omega, h7⟩
def wChk (W : Wt) (U m : Nat) : Bool := decide (W.unit = U) && decide (W.buf.length < U) && (W.buf.isEmpty || !W.blocks.isEmpty) && decide (W.blocks.length + m ≤ 1000000) && decide (0 ≤ W.size) && decide (W.size + m ≤ 1000000000000)
theorem wChk_ok {W : Wt} {U m : Nat} (h : wChk W U m = true) : WInv W U m := by
  unfold wChk at h
  simp only [Bool.and_eq_true, Bool.or_eq_true, decide_eq_true_eq] at h
  obtain ⟨⟨⟨⟨⟨h1, h2⟩, h3⟩, h4⟩, h5⟩, h6⟩ := h
  refine ⟨h1, h2, fun hb hbl => ?_, h4, h5, h6⟩
  rcases h3 with h3 | h3
  · exact hb (by simpa using h3)
  · rw [hbl] at h3
    cases h3
def bR1 (b h : Nat) := rRead bR (bD b) (h : Int)
def bR2 (b h : Nat) := rRead (bR1 b h).2.2.1 (bR1 b h).2.2.2 100
def bX1 (b h : Nat) := wWrite 8 bW (bR2 b h).2.2.2 (allFree 8) (List.replicate h 0)
def bX2 (b h : Nat) := wWrite 8 (bX1 b h).2.1 (bX1 b h).2.2.1 (bX1 b h).2.2.2 (List.replicate (112 - h) 0)
def bOk1 (b h : Nat) : Bool := decide ((bR1 b h).1 = 0) && decide ((bR1 b h).2.1.length = h) && rdChk (bR1 b h).2.2.1 (bR1 b h).2.2.2 && decide ((bR2 b h).1 = 37) && decide ((bR2 b h).2.1.length = 0) && decide ((bR2 b h).2.2.1.fault = 37) && decide ((bR2 b h).2.2.1.pos = h) && decide ((bR2 b h).2.2.1.size = 100) && decide ((bR2 b h).2.2.2.unit = 16)
def bOk2 (b h : Nat) : Bool := decide ((bX1 b h).1 = 0) && wChk (bX1 b h).2.1 16 (112 - h) && decide ((bX1 b h).2.1.ready = 0) && decide ((bX2 b h).1 = 38) && decide ((bX2 b h).2.1.ready = 38) && decide (cntB (bX2 b h).2.2.2 8 = 8) && decide ((bX2 b h).2.2.1.cw = (b : Int) + 1) && decide ((bX1 b h).2.2.1.unit = 16)
theorem bOk_all1 : ∀ b < 6, ∀ h < 81, h ≤ b * 16 → bOk1 b h = true := by decide +kernel
theorem bOk_all2 : ∀ b < 6, ∀ h < 81, h ≤ b * 16 → bOk2 b h = true := by decide +kernel
end Go.Proofs.Ytkhejipcclpknaa
