/- The reference's round keys and its mixing in plain Lean. No program in sight. -/
import Derived.Test.YtnbjpilanjngmaaRef12P
namespace Go.Proofs.Ytnbjpilanjngmaa.XS
open Go

theorem tms_two (c : UInt8) : tms 2 c = dbl c := by
  rw [tms_comm]
  show (0 : UInt8) ^^^ dbl c = dbl c
  simp
theorem tms_three (c : UInt8) : tms 3 c = dbl c ^^^ c := by
  rw [tms_comm]
  show (0 : UInt8) ^^^ c ^^^ dbl c = dbl c ^^^ c
  simp [UInt8.xor_comm]
theorem mixR0 (a b c d : UInt8) : tms 2 a ^^^ tms 3 b ^^^ c ^^^ d = a ^^^ (a ^^^ b ^^^ c ^^^ d) ^^^ dbl (a ^^^ b) := by
  rw [tms_two, tms_three, dbl_xor]
  have : a ^^^ (a ^^^ b ^^^ c ^^^ d) ^^^ (dbl a ^^^ dbl b) = (a ^^^ a) ^^^ (dbl a ^^^ (dbl b ^^^ b) ^^^ c ^^^ d) := by ac_rfl
  rw [this]; simp
theorem mixR1 (a b c d : UInt8) : a ^^^ tms 2 b ^^^ tms 3 c ^^^ d = b ^^^ (a ^^^ b ^^^ c ^^^ d) ^^^ dbl (b ^^^ c) := by
  have h := mixR0 b c d a
  have e1 : a ^^^ tms 2 b ^^^ tms 3 c ^^^ d = tms 2 b ^^^ tms 3 c ^^^ d ^^^ a := by ac_rfl
  have e2 : a ^^^ b ^^^ c ^^^ d = b ^^^ c ^^^ d ^^^ a := by ac_rfl
  rw [e1, e2, h]
theorem mixR2 (a b c d : UInt8) : a ^^^ b ^^^ tms 2 c ^^^ tms 3 d = c ^^^ (a ^^^ b ^^^ c ^^^ d) ^^^ dbl (c ^^^ d) := by
  have h := mixR0 c d a b
  have e1 : a ^^^ b ^^^ tms 2 c ^^^ tms 3 d = tms 2 c ^^^ tms 3 d ^^^ a ^^^ b := by ac_rfl
  have e2 : a ^^^ b ^^^ c ^^^ d = c ^^^ d ^^^ a ^^^ b := by ac_rfl
  rw [e1, e2, h]
theorem mixR3 (a b c d : UInt8) : tms 3 a ^^^ b ^^^ c ^^^ tms 2 d = d ^^^ (a ^^^ b ^^^ c ^^^ d) ^^^ dbl (d ^^^ a) := by
  have h := mixR0 d a b c
  have e1 : tms 3 a ^^^ b ^^^ c ^^^ tms 2 d = tms 2 d ^^^ tms 3 a ^^^ b ^^^ c := by ac_rfl
  have e2 : a ^^^ b ^^^ c ^^^ d = d ^^^ a ^^^ b ^^^ c := by ac_rfl
  rw [e1, e2, h]
theorem mxR (m : Nat → UInt8) (c : Nat) :
    xr (xr (xr (tms 2 (m (4 * c))) (tms 3 (m (4 * c + 1)))) (m (4 * c + 2))) (m (4 * c + 3)) = mxd m (4 * c) ∧
    xr (xr (xr (m (4 * c)) (tms 2 (m (4 * c + 1)))) (tms 3 (m (4 * c + 2)))) (m (4 * c + 3)) = mxd m (4 * c + 1) ∧
    xr (xr (xr (m (4 * c)) (m (4 * c + 1))) (tms 2 (m (4 * c + 2)))) (tms 3 (m (4 * c + 3))) = mxd m (4 * c + 2) ∧
    xr (xr (xr (tms 3 (m (4 * c))) (m (4 * c + 1))) (m (4 * c + 2))) (tms 2 (m (4 * c + 3))) = mxd m (4 * c + 3) := by
  unfold xr mxd
  simp only []
  refine ⟨?_, ?_, ?_, ?_⟩
  · rw [mixR0, show 4 * c / 4 * 4 = 4 * c by omega, show (4 * c % 4 + 1) % 4 = 1 by omega]
  · rw [mixR1, show (4 * c + 1) / 4 * 4 = 4 * c by omega, show ((4 * c + 1) % 4 + 1) % 4 = 2 by omega]
  · rw [mixR2, show (4 * c + 2) / 4 * 4 = 4 * c by omega, show ((4 * c + 2) % 4 + 1) % 4 = 3 by omega]
  · rw [mixR3, show (4 * c + 3) / 4 * 4 = 4 * c by omega, show ((4 * c + 3) % 4 + 1) % 4 = 0 by omega]; rfl
theorem mk_set4 {c : Nat} (f : Nat → UInt8) (x0 x1 x2 x3 : UInt8) (h0 : x0 = f (4 * c)) (h1 : x1 = f (4 * c + 1)) (h2 : x2 = f (4 * c + 2)) (h3 : x3 = f (4 * c + 3)) (n : Nat) :
    (((((mk n fun i => if i < 4 * c then f i else 0).set (4 * c) x0).set (4 * c + 1) x1).set (4 * c + 2) x2).set (4 * c + 3) x3) = mk n fun i => if i < 4 * (c + 1) then f i else 0 := by
  subst h0 h1 h2 h3
  rw [mk_step, mk_step, mk_step, mk_step]; rfl
/-- What the key's word i is xored with, in its three cases. -/
theorem tw4_first {k i : Nat} {key : Nat → UInt8} (h : i % k = 0) : mk 4 (tw k key i) = [xr (bx (kw k key (i - 1) 1)) (rcon (i / k - 1)), bx (kw k key (i - 1) 2), bx (kw k key (i - 1) 3), bx (kw k key (i - 1) 0)] := by
  show [tw k key i 0, tw k key i 1, tw k key i 2, tw k key i 3] = _
  unfold tw
  simp only [if_pos h]; rfl
theorem tw4_mid {k i : Nat} {key : Nat → UInt8} (h : ¬ i % k = 0) (h2 : k = 8 ∧ i % 8 = 4) : mk 4 (tw k key i) = [bx (kw k key (i - 1) 0), bx (kw k key (i - 1) 1), bx (kw k key (i - 1) 2), bx (kw k key (i - 1) 3)] := by
  show [tw k key i 0, tw k key i 1, tw k key i 2, tw k key i 3] = _
  unfold tw
  simp only [if_neg h, if_pos h2]
theorem tw4_else {k i : Nat} {key : Nat → UInt8} (h : ¬ i % k = 0) (h2 : ¬ (k = 8 ∧ i % 8 = 4)) : mk 4 (tw k key i) = mk 4 (kw k key (i - 1)) := by
  show [tw k key i 0, tw k key i 1, tw k key i 2, tw k key i 3] = [kw k key (i - 1) 0, kw k key (i - 1) 1, kw k key (i - 1) 2, kw k key (i - 1) 3]
  unfold tw
  simp only [if_neg h, if_neg h2]
end Go.Proofs.Ytnbjpilanjngmaa.XS
