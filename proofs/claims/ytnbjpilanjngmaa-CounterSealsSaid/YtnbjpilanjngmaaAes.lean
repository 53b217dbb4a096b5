/- The cipher of layer 12 in plain Lean: what its functions reckon. No program in sight. -/
import Derived.Test.YtnbjpilanjngmaaLib
namespace Go.Proofs.Ytnbjpilanjngmaa.XS
open Go

/-- A byte, times 2. -/
def dbl (a : UInt8) : UInt8 := if 128 ≤ a then (a <<< 1) ^^^ 27 else a <<< 1
def tmsGo : Nat → UInt8 → UInt8 → UInt8 → UInt8
  | 0, _, _, out => out
  | f + 1, a, b, out => if b = 0 then out else tmsGo f (dbl a) (b >>> 1) (if b &&& 1 = 1 then out ^^^ a else out)
/-- The product, as the program takes it. -/
def tms (a b : UInt8) : UInt8 := tmsGo 8 a b 0
def boxT : List UInt8 := [
  99, 124, 119, 123, 242, 107, 111, 197, 48, 1, 103, 43, 254, 215, 171, 118, 202, 130, 201, 125, 250, 89, 71, 240, 173, 212, 162, 175, 156, 164, 114, 192,
  183, 253, 147, 38, 54, 63, 247, 204, 52, 165, 229, 241, 113, 216, 49, 21, 4, 199, 35, 195, 24, 150, 5, 154, 7, 18, 128, 226, 235, 39, 178, 117,
  9, 131, 44, 26, 27, 110, 90, 160, 82, 59, 214, 179, 41, 227, 47, 132, 83, 209, 0, 237, 32, 252, 177, 91, 106, 203, 190, 57, 74, 76, 88, 207,
  208, 239, 170, 251, 67, 77, 51, 133, 69, 249, 2, 127, 80, 60, 159, 168, 81, 163, 64, 143, 146, 157, 56, 245, 188, 182, 218, 33, 16, 255, 243, 210,
  205, 12, 19, 236, 95, 151, 68, 23, 196, 167, 126, 61, 100, 93, 25, 115, 96, 129, 79, 220, 34, 42, 144, 136, 70, 238, 184, 20, 222, 94, 11, 219,
  224, 50, 58, 10, 73, 6, 36, 92, 194, 211, 172, 98, 145, 149, 228, 121, 231, 200, 55, 109, 141, 213, 78, 169, 108, 86, 244, 234, 101, 122, 174, 8,
  186, 120, 37, 46, 28, 166, 180, 198, 232, 221, 116, 31, 75, 189, 139, 138, 112, 62, 181, 102, 72, 3, 246, 14, 97, 53, 87, 185, 134, 193, 29, 158,
  225, 248, 152, 17, 105, 217, 142, 148, 155, 30, 135, 233, 206, 85, 40, 223, 140, 161, 137, 13, 191, 230, 66, 104, 65, 153, 45, 15, 176, 84, 187, 22]
/-- The box in memory. -/
@[irreducible] def boxV : Array Value := bytesV boxT
theorem boxV_eq : boxV = bytesV boxT := by unfold boxV; rfl
def bx (x : UInt8) : UInt8 := boxT[x.toNat]?.getD 0
set_option maxRecDepth 10000 in
theorem boxT_length : boxT.length = 256 := by decide
theorem boxV_size : boxV.size = 256 := by rw [boxV_eq, bytesV_size, boxT_length]
theorem box_at (x : UInt8) : boxV[x.toNat]? = some (.int .u8 ((bx x).toNat : Int)) := by
  rw [boxV_eq, bytesV_get _ _ (by rw [boxT_length]; exact x.toNat_lt)]; rfl

theorem dbl_int (a : UInt8) : (a.toNat : Int) * (2 : Int) % (256 : Int) = (((a <<< 1).toNat : Nat) : Int) := by
  have h : (a <<< 1).toNat = a.toNat * 2 % 256 := by
    rw [UInt8.toNat_shiftLeft]; simp [Nat.shiftLeft_eq]
  rw [h]; omega
theorem shr_int (a : UInt8) : (a.toNat : Int) / (2 : Int) = (((a >>> 1).toNat : Nat) : Int) := by
  have h : (a >>> 1).toNat = a.toNat / 2 := by
    rw [UInt8.toNat_shiftRight]; simp [Nat.shiftRight_eq_div_pow]
  rw [h]; omega
theorem dbl_hi (a : UInt8) (h : 128 ≤ (a.toNat : Int)) : bits .xor .u8 ((a.toNat : Int) * 2 % 256) 27 = ((dbl a).toNat : Int) := by
  have h' : (128 : UInt8) ≤ a := by rw [UInt8.le_iff_toNat_le]; show 128 ≤ a.toNat; omega
  rw [dbl_int, show (27 : Int) = ((27 : UInt8).toNat : Int) from rfl, bits_xor_u8, dbl, if_pos h']
theorem dbl_lo (a : UInt8) (h : ¬ 128 ≤ (a.toNat : Int)) : (a.toNat : Int) * (2 : Int) = ((dbl a).toNat : Int) := by
  have h' : ¬ (128 : UInt8) ≤ a := by rw [UInt8.le_iff_toNat_le]; show ¬ 128 ≤ a.toNat; omega
  have := dbl_int a
  rw [dbl, if_neg h', ← this]; omega

/-- A block, xored with round key r. -/
def addK (ks b : Nat → UInt8) (r : Nat) (i : Nat) : UInt8 := b i ^^^ ks (16 * r + i)
def mvd (b : Nat → UInt8) (j : Nat) : UInt8 := bx (b (4 * ((j / 4 + j % 4) % 4) + j % 4))
def mxd (b : Nat → UInt8) (j : Nat) : UInt8 :=
  let c := j / 4 * 4
  b j ^^^ (b c ^^^ b (c + 1) ^^^ b (c + 2) ^^^ b (c + 3)) ^^^ dbl (b j ^^^ b (c + (j % 4 + 1) % 4))
/-- The round keys and how many rounds there are, as a Key has them in memory. -/
def keyV (ks : Nat → UInt8) (R : Nat) : Array Value := bytesV (mk 240 ks) ++ #[.int .i64 (R : Int)]
theorem keyV_byte (ks : Nat → UInt8) (R k : Nat) (hk : k < 240) : (keyV ks R)[k]? = some (.int .u8 ((ks k).toNat : Int)) := by
  unfold keyV
  rw [Array.getElem?_append_left (by rw [bytesV_size, mk_length]; exact hk), bytesV_get _ _ (by rw [mk_length]; exact hk), mk_get hk]
theorem keyV_rounds (ks : Nat → UInt8) (R : Nat) : (keyV ks R)[240]? = some (.int .i64 (R : Int)) := by
  unfold keyV
  rw [Array.getElem?_append_right (by rw [bytesV_size, mk_length]; exact Nat.le_refl _), bytesV_size, mk_length]; rfl
theorem keyV_size (ks : Nat → UInt8) (R : Nat) : (keyV ks R).size = 241 := by
  simp [keyV, bytesV_size, mk_length]
theorem keyV_get (ks : Nat → UInt8) (R p : Nat) : (keyV ks R)[p]? = if p < 240 then some (.int .u8 ((ks p).toNat : Int)) else if p = 240 then some (.int .i64 (R : Int)) else none := by
  by_cases h : p < 240
  · rw [if_pos h, keyV_byte ks R p h]
  · rw [if_neg h]
    by_cases h2 : p = 240
    · subst h2; rw [if_pos rfl, keyV_rounds]
    · rw [if_neg h2, Array.getElem?_eq_none (by rw [keyV_size]; omega)]
theorem keyV_congr {f g : Nat → UInt8} (R : Nat) (h : ∀ i, i < 240 → f i = g i) : keyV f R = keyV g R := by
  unfold keyV; rw [mk_congr h]
theorem keyV_set (f : Nat → UInt8) (R k : Nat) (hk : k < 240) (x : UInt8) : (keyV f R).setIfInBounds k (.int .u8 (x.toNat : Int)) = keyV (fun i => if i = k then x else f i) R := by
  apply Array.ext_getElem?
  intro p
  rw [Array.getElem?_setIfInBounds, keyV_get, keyV_get, keyV_size]
  by_cases h : k = p
  · subst h; simp [hk, show k < 241 by omega]
  · simp [h, Ne.symm h]
def rcon : Nat → UInt8
  | 0 => 1
  | k + 1 => dbl (rcon k)
/-- Byte j of the key's word i. -/
def kw (n : Nat) (key : Nat → UInt8) (i j : Nat) : UInt8 :=
  if h : i < n ∨ n = 0 then key (4 * i + j)
  else kw n key (i - n) j ^^^
    (if i % n = 0 then (if j = 0 then xr (bx (kw n key (i - 1) 1)) (rcon (i / n - 1)) else bx (kw n key (i - 1) ((j + 1) % 4)))
     else if n = 8 ∧ i % 8 = 4 then bx (kw n key (i - 1) j) else kw n key (i - 1) j)
termination_by i
/-- What the key's word i is xored with. -/
def tw (n : Nat) (key : Nat → UInt8) (i j : Nat) : UInt8 :=
  if i % n = 0 then (if j = 0 then xr (bx (kw n key (i - 1) 1)) (rcon (i / n - 1)) else bx (kw n key (i - 1) ((j + 1) % 4)))
  else if n = 8 ∧ i % 8 = 4 then bx (kw n key (i - 1) j) else kw n key (i - 1) j
theorem kw_low {n : Nat} {key : Nat → UInt8} {i j : Nat} (h : i < n) : kw n key i j = key (4 * i + j) := by rw [kw, dif_pos (.inl h)]
theorem kw_high {n : Nat} {key : Nat → UInt8} {i j : Nat} (h : n ≤ i) (hn : 0 < n) : kw n key i j = kw n key (i - n) j ^^^ tw n key i j := by
  rw [kw, dif_neg (by omega)]; rfl
/-- The round keys, byte behind byte. -/
def keyS (n : Nat) (key : Nat → UInt8) (p : Nat) : UInt8 := kw n key (p / 4) (p % 4)
theorem keyS_low {n : Nat} {key : Nat → UInt8} {p : Nat} (h : p < 4 * n) : keyS n key p = key p := by
  unfold keyS; rw [kw_low (by omega)]; congr 1; omega
theorem keyS_at {n : Nat} {key : Nat → UInt8} {i j : Nat} (h : j < 4) : keyS n key (4 * i + j) = kw n key i j := by
  unfold keyS; rw [show (4 * i + j) / 4 = i by omega, show (4 * i + j) % 4 = j by omega]
/-- A block behind so many rounds. -/
def blk (ks b : Nat → UInt8) : Nat → Nat → UInt8
  | 0 => addK ks b 0
  | r + 1 => addK ks (mxd (mvd (blk ks b r))) (r + 1)
def enc (ks b : Nat → UInt8) (R : Nat) : Nat → UInt8 := addK ks (mvd (blk ks b (R - 1))) R
theorem mvd_congr {f g : Nat → UInt8} (h : ∀ i, i < 16 → f i = g i) (j : Nat) (hj : j < 16) : mvd f j = mvd g j := by
  unfold mvd; rw [h _ (by omega)]
theorem mxd_congr {f g : Nat → UInt8} (h : ∀ i, i < 16 → f i = g i) (j : Nat) (hj : j < 16) : mxd f j = mxd g j := by
  unfold mxd; simp only []; rw [h _ hj, h _ (by omega), h (j / 4 * 4 + 1) (by omega), h (j / 4 * 4 + 2) (by omega), h (j / 4 * 4 + 3) (by omega), h (j / 4 * 4 + (j % 4 + 1) % 4) (by omega)]
theorem addK_congr {ks kt f g : Nat → UInt8} {r j : Nat} (h : f j = g j) (hk : ks (16 * r + j) = kt (16 * r + j)) : addK ks f r j = addK kt g r j := by
  unfold addK; rw [h, hk]
theorem blk_congr {ks kt f g : Nat → UInt8} : ∀ (r : Nat), (∀ p, p < 16 * (r + 1) → ks p = kt p) → (∀ i, i < 16 → f i = g i) → ∀ i, i < 16 → blk ks f r i = blk kt g r i
  | 0, hk, hf, i, hi => by unfold blk; exact addK_congr (hf i hi) (hk _ (by omega))
  | r + 1, hk, hf, i, hi => by
    unfold blk
    exact addK_congr (mxd_congr (fun j hj => mvd_congr (blk_congr r (fun p hp => hk p (by omega)) hf) j hj) i hi) (hk _ (by omega))
theorem enc_congr' {ks kt f g : Nat → UInt8} {R : Nat} (hk : ∀ p, p < 16 * (R + 1) → ks p = kt p) (hf : ∀ i, i < 16 → f i = g i) (i : Nat) (hi : i < 16) : enc ks f R i = enc kt g R i := by
  unfold enc
  exact addK_congr (mvd_congr (blk_congr (R - 1) (fun p hp => hk p (by omega)) hf) i hi) (hk _ (by omega))
theorem enc_congr {ks kt b : Nat → UInt8} {R : Nat} (hk : ∀ p, p < 16 * (R + 1) → ks p = kt p) (i : Nat) (hi : i < 16) : enc ks b R i = enc kt b R i := enc_congr' hk (fun _ _ => rfl) i hi
theorem kw_congr {n : Nat} {key key' : Nat → UInt8} (hn : 0 < n) (h : ∀ i, i < 4 * n → key i = key' i) : ∀ (i j : Nat), j < 4 → kw n key i j = kw n key' i j := by
  intro i
  induction i using Nat.strongRecOn with
  | _ i ih =>
    intro j hj
    by_cases hi : i < n
    · rw [kw_low hi, kw_low hi, h _ (by omega)]
    · rw [kw_high (key := key) (i := i) (by omega) hn, kw_high (key := key') (i := i) (by omega) hn, ih (i - n) (by omega) j hj]
      unfold tw
      rw [ih (i - 1) (by omega) 1 (by omega), ih (i - 1) (by omega) ((j + 1) % 4) (by omega), ih (i - 1) (by omega) j hj]
/-- The round keys, 0 behind the last. -/
def keyZ (n : Nat) (key : Nat → UInt8) (p : Nat) : UInt8 := if p < 16 * (n + 7) then keyS n key p else 0
end Go.Proofs.Ytnbjpilanjngmaa.XS
