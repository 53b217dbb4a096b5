/- The block that the document fixes: reckoned. -/
import Derived.Test.YtkdebhdfbpbcoaaAes
import Derived.KernelRfl
namespace Go.Proofs.Ytkdebhdfbpbcoaa.XS
open Go
def keyT : List UInt8 := [
  0, 1, 2, 3, 4, 5, 6, 7, 8, 9, 10, 11, 12, 13, 14, 15, 214, 170, 116, 253, 210, 175, 114, 250, 218, 166, 120, 241, 214, 171, 118, 254,
  182, 146, 207, 11, 100, 61, 189, 241, 190, 155, 197, 0, 104, 48, 179, 254, 182, 255, 116, 78, 210, 194, 201, 191, 108, 89, 12, 191, 4, 105, 191, 65,
  71, 247, 247, 188, 149, 53, 62, 3, 249, 108, 50, 188, 253, 5, 141, 253, 60, 170, 163, 232, 169, 159, 157, 235, 80, 243, 175, 87, 173, 246, 34, 170,
  94, 57, 15, 125, 247, 166, 146, 150, 167, 85, 61, 193, 10, 163, 31, 107, 20, 249, 112, 26, 227, 95, 226, 140, 68, 10, 223, 77, 78, 169, 192, 38,
  71, 67, 135, 53, 164, 28, 101, 185, 224, 22, 186, 244, 174, 191, 122, 210, 84, 153, 50, 209, 240, 133, 87, 104, 16, 147, 237, 156, 190, 44, 151, 78,
  19, 17, 29, 127, 227, 148, 74, 23, 243, 7, 167, 139, 77, 43, 48, 197]
def stT : List UInt8 := [
  0, 16, 32, 48, 64, 80, 96, 112, 128, 144, 160, 176, 192, 208, 224, 240, 137, 216, 16, 232, 133, 90, 206, 104, 45, 24, 67, 216, 203, 18, 143, 228,
  73, 21, 89, 143, 85, 229, 215, 160, 218, 202, 148, 250, 31, 10, 99, 247, 250, 99, 106, 40, 37, 179, 57, 201, 64, 102, 138, 49, 87, 36, 77, 23,
  36, 114, 64, 35, 105, 102, 179, 250, 110, 210, 117, 50, 136, 66, 91, 108, 200, 22, 119, 188, 155, 122, 201, 59, 37, 2, 121, 146, 176, 38, 25, 150,
  198, 47, 225, 9, 247, 94, 237, 195, 204, 121, 57, 93, 132, 249, 207, 93, 209, 135, 108, 15, 121, 196, 48, 10, 180, 85, 148, 173, 214, 111, 244, 31,
  253, 227, 186, 210, 5, 229, 208, 215, 53, 71, 150, 78, 241, 254, 55, 241, 189, 110, 124, 61, 242, 181, 119, 158, 11, 97, 33, 110, 139, 16, 182, 137]
def kAt (i j : Nat) : UInt8 := keyT[4 * i + j]?.getD 0
def sAt (r i : Nat) : UInt8 := stT[16 * r + i]?.getD 0
/-- The key 00 01 .. 0f. -/
def key0 (i : Nat) : UInt8 := UInt8.ofNat i
/-- The block 00 11 .. ff. -/
def blk0 (i : Nat) : UInt8 := UInt8.ofNat (17 * i)
def keyChk : Bool := (List.range 4).all (fun i => (List.range 4).all fun j => kAt i j == key0 (4 * i + j)) &&
  (List.range 40).all fun i => (List.range 4).all fun j => kAt (i + 4) j == kAt i j ^^^ (if (i + 4) % 4 = 0 then (if j = 0 then bx (kAt (i + 3) 1) ^^^ rcon ((i + 4) / 4 - 1) else bx (kAt (i + 3) ((j + 1) % 4))) else kAt (i + 3) j)
theorem keyChk_true : keyChk = true := by kernel_rfl
theorem key_at (i j : Nat) (hi : i < 44) (hj : j < 4) : kw 4 key0 i j = kAt i j := by
  have hc := keyChk_true
  simp only [keyChk, Bool.and_eq_true] at hc
  induction i using Nat.strongRecOn generalizing j with
  | _ i ih =>
    by_cases h4 : i < 4
    · rw [kw_low h4]
      have := List.all_eq_true.1 (List.all_eq_true.1 hc.1 i (by simpa using h4)) j (by simpa using hj)
      simpa using (beq_iff_eq.1 this).symm
    · have h := List.all_eq_true.1 (List.all_eq_true.1 hc.2 (i - 4) (by simp; omega)) j (by simpa using hj)
      rw [beq_iff_eq, show i - 4 + 4 = i by omega, show i - 4 + 3 = i - 1 by omega] at h
      rw [kw_high (by omega) (by omega), tw, ih (i - 4) (by omega) j (by omega) hj, h, if_neg (show ¬ ((4 : Nat) = 8 ∧ i % 8 = 4) by omega)]
      congr 1
      split
      · split
        · rw [ih (i - 1) (by omega) 1 (by omega) (by omega)]; rfl
        · rw [ih (i - 1) (by omega) _ (by omega) (by omega)]
      · rw [ih (i - 1) (by omega) j (by omega) hj]
def stChk : Bool := (List.range 16).all (fun i => sAt 0 i == blk0 i ^^^ keyT[i]?.getD 0) &&
  ((List.range 9).all fun r => (List.range 16).all fun i => sAt (r + 1) i == mxd (mvd (sAt r)) i ^^^ keyT[16 * (r + 1) + i]?.getD 0) &&
  (mvd (sAt 9) 0 ^^^ keyT[160]?.getD 0 == 0x69) && (mvd (sAt 9) 15 ^^^ keyT[175]?.getD 0 == 0x5a)
theorem stChk_true : stChk = true := by kernel_rfl
theorem keyS_lit {p : Nat} (h : p < 176) : keyS 4 key0 p = keyT[p]?.getD 0 := by
  unfold keyS; rw [key_at _ _ (by omega) (by omega), kAt, show 4 * (p / 4) + p % 4 = p by omega]
theorem st_at (r : Nat) (hr : r < 10) : ∀ i, i < 16 → blk (keyS 4 key0) blk0 r i = sAt r i := by
  have hc := stChk_true
  simp only [stChk, Bool.and_eq_true] at hc
  induction r with
  | zero =>
    intro i hi
    have h := List.all_eq_true.1 hc.1.1.1 i (by simpa using hi)
    rw [beq_iff_eq] at h
    rw [h]; unfold blk addK
    rw [show 16 * 0 + i = i by omega, keyS_lit (by omega)]
  | succ r ih =>
    intro i hi
    have h := List.all_eq_true.1 (List.all_eq_true.1 hc.1.1.2 r (by simp; omega)) i (by simpa using hi)
    rw [beq_iff_eq] at h
    rw [h]; unfold blk addK
    rw [keyS_lit (by omega), mxd_congr (fun j hj => mvd_congr (ih (by omega)) j hj) i hi]
theorem enc0 : enc (keyS 4 key0) blk0 10 0 = 0x69 ∧ enc (keyS 4 key0) blk0 10 15 = 0x5a := by
  have hc := stChk_true
  simp only [stChk, Bool.and_eq_true] at hc
  have h1 := beq_iff_eq.1 hc.1.2
  have h2 := beq_iff_eq.1 hc.2
  unfold enc addK
  constructor
  · rw [mvd_congr (st_at 9 (by omega)) 0 (by omega), keyS_lit (by omega)]; exact h1
  · rw [mvd_congr (st_at 9 (by omega)) 15 (by omega), keyS_lit (by omega)]; exact h2
theorem enc0' (key : Nat → UInt8) (hk : ∀ i, i < 16 → key i = key0 i) : enc (keyZ 4 key) blk0 10 0 = 0x69 ∧ enc (keyZ 4 key) blk0 10 15 = 0x5a := by
  have h : ∀ p, p < 176 → keyZ 4 key p = keyS 4 key0 p := fun p hp => by
    unfold keyZ; rw [if_pos (by omega)]; unfold keyS; exact kw_congr (by omega) hk _ _ (by omega)
  rw [enc_congr (kt := keyS 4 key0) (fun p hp => h p (by omega)) 0 (by omega), enc_congr (kt := keyS 4 key0) (fun p hp => h p (by omega)) 15 (by omega)]
  exact enc0
theorem tms0 : tms 0x57 0x83 = 0xc1 := by kernel_rfl
theorem bx0 : bx 0x53 = 0xed := by kernel_rfl
end Go.Proofs.Ytkdebhdfbpbcoaa.XS
