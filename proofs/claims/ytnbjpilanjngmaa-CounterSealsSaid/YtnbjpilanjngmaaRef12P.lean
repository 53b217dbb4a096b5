/- The reference of layer 12 in plain Lean: its product is the program's. No program in sight. -/
import Derived.Test.YtnbjpilanjngmaaGf
namespace Go.Proofs.Ytnbjpilanjngmaa.XS
open Go

/-- The whole product, of so many bits of b. -/
def tp (a b : Nat) : Nat → Nat
  | 0 => 0
  | k + 1 => if b.testBit k then tp a b k ^^^ (a <<< k) else tp a b k
/-- What is left of it behind k steps of the division, from the top. -/
def rd (p : Nat) : Nat → Nat
  | 0 => p
  | k + 1 => if (rd p k).testBit (14 - k) then rd p k ^^^ (283 <<< (6 - k)) else rd p k
def timesN (a b : Nat) : Nat := rd (tp a b 8) 7
theorem nx4 (a b c d : Nat) : (a ^^^ b) ^^^ (c ^^^ d) = (a ^^^ c) ^^^ (b ^^^ d) := by ac_rfl
theorem tp_add_r (a b c : Nat) : ∀ k, tp a (b ^^^ c) k = tp a b k ^^^ tp a c k
  | 0 => by simp [tp]
  | k + 1 => by
    simp only [tp, Nat.testBit_xor, tp_add_r a b c k]
    cases b.testBit k <;> cases c.testBit k <;> simp
    · ac_rfl
    · ac_rfl
    · rw [nx4]; simp
theorem tp_add_l (a b c : Nat) : ∀ k, tp (a ^^^ b) c k = tp a c k ^^^ tp b c k
  | 0 => by simp [tp]
  | k + 1 => by
    simp only [tp, tp_add_l a b c k]
    cases c.testBit k <;> simp [Nat.shiftLeft_xor_distrib]
    rw [nx4]
theorem rd_add (p q : Nat) : ∀ k, rd (p ^^^ q) k = rd p k ^^^ rd q k
  | 0 => rfl
  | k + 1 => by
    simp only [rd, rd_add p q k, Nat.testBit_xor]
    cases (rd p k).testBit (14 - k) <;> cases (rd q k).testBit (14 - k) <;> simp
    · ac_rfl
    · ac_rfl
    · rw [nx4]; simp
def timesR (a b : UInt8) : UInt8 := UInt8.ofNat (timesN a.toNat b.toNat)
theorem ofNat_xor (a b : Nat) : UInt8.ofNat (a ^^^ b) = UInt8.ofNat a ^^^ UInt8.ofNat b := by
  apply UInt8.toNat_inj.1
  simp only [UInt8.toNat_ofNat', UInt8.toNat_xor, Nat.xor_mod_two_pow]
theorem timesR_add_r (a b c : UInt8) : timesR a (b ^^^ c) = timesR a b ^^^ timesR a c := by
  unfold timesR timesN; rw [UInt8.toNat_xor, tp_add_r, rd_add, ofNat_xor]
theorem timesR_add_l (a b c : UInt8) : timesR (a ^^^ b) c = timesR a c ^^^ timesR b c := by
  unfold timesR timesN; rw [UInt8.toNat_xor, tp_add_l, rd_add, ofNat_xor]
theorem refChk : (ms.all fun a => ms.all fun b => timesR a b == tms a b) = true := by kernel_rfl
theorem timesR_eq (a b : UInt8) : timesR a b = tms a b := by
  refine add_ext (f := fun b => timesR a b) (g := fun b => tms a b) (fun x y => timesR_add_r a x y) (fun x y => tms_add_r a x y) (fun m hm => ?_) b
  refine add_ext (f := fun a => timesR a m) (g := fun a => tms a m) (fun x y => timesR_add_l x y m) (fun x y => tms_add_l x y m) (fun k hk => ?_) a
  exact beq_iff_eq.1 (List.all_eq_true.1 (List.all_eq_true.1 refChk k hk) m hm)
theorem tp_lt {a : Nat} (ha : a < 256) (b : Nat) : ∀ k, tp a b k < 2 ^ (8 + k)
  | 0 => by simp [tp]
  | k + 1 => by
    have h1 := tp_lt ha b k
    have h2 : tp a b k < 2 ^ (8 + (k + 1)) := Nat.lt_of_lt_of_le h1 (Nat.pow_le_pow_right (by omega) (by omega))
    unfold tp
    split
    · refine Nat.xor_lt_two_pow h2 ?_
      rw [Nat.shiftLeft_eq]
      calc a * 2 ^ k < 2 ^ 8 * 2 ^ k := Nat.mul_lt_mul_of_pos_right (by simpa using ha) (Nat.two_pow_pos k)
        _ = 2 ^ (8 + k) := (Nat.pow_add 2 8 k).symm
        _ ≤ _ := Nat.pow_le_pow_right (by omega) (by omega)
    · exact h2
theorem rd_lt {p : Nat} (hp : p < 2 ^ 16) : ∀ k, rd p k < 2 ^ 16
  | 0 => hp
  | k + 1 => by
    unfold rd
    split
    · refine Nat.xor_lt_two_pow (rd_lt hp k) ?_
      rw [Nat.shiftLeft_eq]
      calc 283 * 2 ^ (6 - k) ≤ 283 * 2 ^ 6 := Nat.mul_le_mul_left _ (Nat.pow_le_pow_right (by omega) (by omega))
        _ < 2 ^ 16 := by decide
    · exact rd_lt hp k
end Go.Proofs.Ytnbjpilanjngmaa.XS
