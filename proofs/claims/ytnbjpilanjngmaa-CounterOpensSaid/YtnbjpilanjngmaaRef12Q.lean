/- The reference's box in plain Lean: it is the program's. No program in sight. -/
import Derived.Test.YtnbjpilanjngmaaRef12P
import Derived.Test.YtnbjpilanjngmaaBoxInj
namespace Go.Proofs.Ytnbjpilanjngmaa.XS
open Go

def ivT : List UInt8 := [0, 1, 141, 246, 203, 82, 123, 209, 232, 79, 41, 192, 176, 225, 229, 199, 116, 180, 170, 75, 153, 43, 96, 95, 88, 63, 253, 204, 255, 64, 238, 178, 58, 110, 90, 241, 85, 77, 168, 201, 193, 10, 152, 21, 48, 68, 162, 194, 44, 69, 146, 108, 243, 57, 102, 66, 242, 53, 32, 111, 119, 187, 89, 25, 29, 254, 55, 103, 45, 49, 245, 105, 167, 100, 171, 19, 84, 37, 233, 9, 237, 92, 5, 202, 76, 36, 135, 191, 24, 62, 34, 240, 81, 236, 97, 23, 22, 94, 175, 211, 73, 166, 54, 67, 244, 71, 145, 223, 51, 147, 33, 59, 121, 183, 151, 133, 16, 181, 186, 60, 182, 112, 208, 6, 161, 250, 129, 130, 131, 126, 127, 128, 150, 115, 190, 86, 155, 158, 149, 217, 247, 2, 185, 164, 222, 106, 50, 109, 216, 138, 132, 114, 42, 20, 159, 136, 249, 220, 137, 154, 251, 124, 46, 195, 143, 184, 101, 72, 38, 200, 18, 74, 206, 231, 210, 98, 12, 224, 31, 239, 17, 117, 120, 113, 165, 142, 118, 61, 189, 188, 134, 87, 11, 40, 47, 163, 218, 212, 228, 15, 169, 39, 83, 4, 27, 252, 172, 230, 122, 7, 174, 99, 197, 219, 226, 234, 148, 139, 196, 213, 157, 248, 144, 107, 177, 13, 214, 235, 198, 14, 207, 173, 8, 78, 215, 227, 93, 80, 30, 179, 91, 35, 56, 52, 104, 70, 3, 140, 221, 156, 125, 160, 205, 26, 65, 28]
def iv (x : UInt8) : UInt8 := ivT[x.toNat]?.getD 0
theorem ivChk : (List.range 256).all (fun n => (UInt8.ofNat n == 0) || (tms (UInt8.ofNat n) (iv (UInt8.ofNat n)) == 1)) = true := by kernel_rfl
theorem iv_ok {x : UInt8} (h : x ≠ 0) : tms x (iv x) = 1 := by
  have := all_u8 (p := fun x => (x == 0) || (tms x (iv x) == 1)) ivChk x
  simpa [h] using this
theorem iv_one {x k : UInt8} (h : x ≠ 0) : tms x k = 1 ↔ k = iv x := by
  constructor
  · intro e
    rw [← tms_one k, ← iv_ok h, tms_comm x, tms_assoc, e, tms_comm, tms_one]
  · rintro rfl; exact iv_ok h
theorem tms_zero (k : UInt8) : tms 0 k = 0 := by
  have h := tms_add_l 0 0 k
  rw [UInt8.xor_self] at h
  rw [h, UInt8.xor_self]
/-- What the search for the inverse has found behind so many bytes. -/
def yv (x : UInt8) : Nat → Nat
  | 0 => 0
  | k + 1 => if tms x (UInt8.ofNat (k + 1)) = 1 then k + 1 else yv x k
theorem yv_zero : ∀ k, yv 0 k = 0
  | 0 => rfl
  | k + 1 => by rw [yv, tms_zero, if_neg (by decide), yv_zero k]
theorem yv_eq {x : UInt8} (h : x ≠ 0) : ∀ k, k < 256 → yv x k = if (iv x).toNat ≤ k then (iv x).toNat else 0
  | 0, _ => by
    unfold yv; split
    · omega
    · rfl
  | k + 1, hk => by
    rw [yv, yv_eq h k (by omega)]
    by_cases e : (iv x).toNat = k + 1
    · have : UInt8.ofNat (k + 1) = iv x := by rw [← e]; simp
      rw [if_pos ((iv_one h).2 this), if_pos (by omega), e]
    · have : ¬ UInt8.ofNat (k + 1) = iv x := by
        intro q; apply e; rw [← q, UInt8.toNat_ofNat']; omega
      rw [if_neg (fun q => this ((iv_one h).1 q))]
      by_cases e2 : (iv x).toNat ≤ k
      · rw [if_pos e2, if_pos (by omega)]
      · rw [if_neg e2, if_neg (by omega)]
theorem yv_iv (x : UInt8) : yv x 255 = (iv x).toNat := by
  by_cases h : x = 0
  · subst h; rw [yv_zero]; rfl
  · rw [yv_eq h 255 (by omega), if_pos (by have := (iv x).toNat_lt; omega)]
def bt (x i : Nat) : Nat := (x.testBit i).toNat
def ab (y i : Nat) : Nat := bt y i ^^^ bt y ((i + 4) % 8) ^^^ bt y ((i + 5) % 8) ^^^ bt y ((i + 6) % 8) ^^^ bt y ((i + 7) % 8) ^^^ bt 99 i
def af (y : Nat) : Nat → Nat
  | 0 => 0
  | i + 1 => af y i + ab y i <<< i
theorem afChk : (List.range 256).all (fun n => UInt8.ofNat (af (iv (UInt8.ofNat n)).toNat 8) == bx (UInt8.ofNat n)) = true := by kernel_rfl
theorem af_eq (x : UInt8) : UInt8.ofNat (af (yv x 255) 8) = bx x := by
  have := all_u8 (p := fun x => UInt8.ofNat (af (iv x).toNat 8) == bx x) afChk x
  rw [yv_iv]; exact beq_iff_eq.1 this
theorem bt_lt (x i : Nat) : bt x i < 2 := by unfold bt; cases x.testBit i <;> decide
theorem ab_lt (y i : Nat) : ab y i < 2 := by
  unfold ab
  have l := fun x i => bt_lt x i
  exact Nat.xor_lt_two_pow (n := 1) (Nat.xor_lt_two_pow (n := 1) (Nat.xor_lt_two_pow (n := 1) (Nat.xor_lt_two_pow (n := 1) (Nat.xor_lt_two_pow (n := 1) (l _ _) (l _ _)) (l _ _)) (l _ _)) (l _ _)) (l _ _)
theorem yv_lt (x : UInt8) : ∀ k, k < 256 → yv x k < 256
  | 0, _ => by unfold yv; omega
  | k + 1, h => by unfold yv; split; · omega
                   · exact yv_lt x k (by omega)
theorem af_lt (y : Nat) : ∀ i, af y i < 2 ^ i
  | 0 => by unfold af; omega
  | i + 1 => by
    have h1 := af_lt y i
    have h2 := ab_lt y i
    have h3 : ab y i <<< i ≤ 2 ^ i := by rw [Nat.shiftLeft_eq]; exact Nat.le_trans (Nat.mul_le_mul_right _ (show ab y i ≤ 1 by omega)) (by omega)
    unfold af; rw [Nat.pow_succ]; omega
end Go.Proofs.Ytnbjpilanjngmaa.XS
