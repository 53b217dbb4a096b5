/- The product of bytes: it spreads over xor, does not hang on the order, nor on which two of three are taken first. No program in sight. -/
import Derived.Test.YtnbjpilanjngmaaAes
import Derived.KernelRfl
namespace Go.Proofs.Ytnbjpilanjngmaa.XS
open Go

/-- A Bool that holds at every byte. -/
theorem all_u8 {p : UInt8 → Bool} (h : (List.range 256).all (fun n => p (UInt8.ofNat n)) = true) (x : UInt8) : p x = true := by
  have := List.all_eq_true.1 h x.toNat (by simpa using x.toNat_lt)
  simpa using this
theorem u8_xor_shr (a b k : UInt8) : (a ^^^ b) >>> k = a >>> k ^^^ b >>> k := by
  apply UInt8.toNat_inj.1
  simp only [UInt8.toNat_shiftRight, UInt8.toNat_xor, Nat.shiftRight_xor_distrib]
theorem u8_xor_shl (a b k : UInt8) : (a ^^^ b) <<< k = a <<< k ^^^ b <<< k := by
  apply UInt8.toNat_inj.1
  simp only [UInt8.toNat_shiftLeft, UInt8.toNat_xor, Nat.shiftLeft_xor_distrib, Nat.xor_mod_two_pow]
theorem u8_xor_and (a b c : UInt8) : (a ^^^ b) &&& c = (a &&& c) ^^^ (b &&& c) := by
  apply UInt8.toNat_inj.1
  simp only [UInt8.toNat_and, UInt8.toNat_xor, Nat.and_xor_distrib_right]
def dblP (a : UInt8) : Bool := (dbl a == (a <<< 1) ^^^ (if a >>> 7 = 1 then 27 else 0)) && (a >>> 7 == 0 || a >>> 7 == 1) && (a &&& 1 == 0 || a &&& 1 == 1) &&
    (a == (a &&& 1) ^^^ (a &&& 2) ^^^ (a &&& 4) ^^^ (a &&& 8) ^^^ (a &&& 16) ^^^ (a &&& 32) ^^^ (a &&& 64) ^^^ (a &&& 128)) &&
    [1, 2, 4, 8, 16, 32, 64, 128].all (fun m : UInt8 => a &&& m == 0 || a &&& m == m)
theorem dblChk : (List.range 256).all (fun n => dblP (UInt8.ofNat n)) = true := by kernel_rfl
theorem dbl_eq (a : UInt8) : dbl a = (a <<< 1) ^^^ (if a >>> 7 = 1 then 27 else 0) := by
  have := all_u8 (p := dblP) dblChk a; simp only [dblP, Bool.and_eq_true] at this; exact beq_iff_eq.1 this.1.1.1.1
theorem top_bit (a : UInt8) : a >>> 7 = 0 ∨ a >>> 7 = 1 := by
  have := all_u8 (p := dblP) dblChk a; simp only [dblP, Bool.and_eq_true, Bool.or_eq_true, beq_iff_eq] at this; exact this.1.1.1.2
theorem low_bit (a : UInt8) : a &&& 1 = 0 ∨ a &&& 1 = 1 := by
  have := all_u8 (p := dblP) dblChk a; simp only [dblP, Bool.and_eq_true, Bool.or_eq_true, beq_iff_eq] at this; exact this.1.1.2
theorem bits_sum (a : UInt8) : a = (a &&& 1) ^^^ (a &&& 2) ^^^ (a &&& 4) ^^^ (a &&& 8) ^^^ (a &&& 16) ^^^ (a &&& 32) ^^^ (a &&& 64) ^^^ (a &&& 128) := by
  have := all_u8 (p := dblP) dblChk a; simp only [dblP, Bool.and_eq_true] at this; exact beq_iff_eq.1 this.1.2
theorem bit_or (a m : UInt8) (hm : m ∈ ([1, 2, 4, 8, 16, 32, 64, 128] : List UInt8)) : a &&& m = 0 ∨ a &&& m = m := by
  have := all_u8 (p := dblP) dblChk a; simp only [dblP, Bool.and_eq_true] at this
  have := List.all_eq_true.1 this.2 m hm
  simpa using this

theorem x_comm4 (a b c d : UInt8) : (a ^^^ b) ^^^ (c ^^^ d) = (a ^^^ c) ^^^ (b ^^^ d) := by ac_rfl
theorem dbl_xor (a b : UInt8) : dbl (a ^^^ b) = dbl a ^^^ dbl b := by
  rw [dbl_eq, dbl_eq a, dbl_eq b, u8_xor_shl, u8_xor_shr, x_comm4]
  congr 1
  rcases top_bit a with ha | ha <;> rcases top_bit b with hb | hb <;> rw [ha, hb] <;> rfl

/-- The product by its bits. -/
def sm : Nat → UInt8 → UInt8 → UInt8
  | 0, _, _ => 0
  | f + 1, a, b => (if b &&& 1 = 1 then a else 0) ^^^ sm f (dbl a) (b >>> 1)
theorem sm_zero : ∀ (f : Nat) (a : UInt8), sm f a 0 = 0
  | 0, _ => rfl
  | f + 1, a => by
    rw [sm, show (0 : UInt8) >>> 1 = 0 from rfl, sm_zero f]; simp
theorem tmsGo_sm : ∀ (f : Nat) (a b o : UInt8), tmsGo f a b o = o ^^^ sm f a b
  | 0, _, _, o => by rw [tmsGo, sm]; simp
  | f + 1, a, b, o => by
    unfold tmsGo
    by_cases h : b = 0
    · rw [if_pos h, h, sm_zero]; simp
    · rw [if_neg h, tmsGo_sm f, sm]
      split
      · rw [UInt8.xor_assoc]
      · simp
theorem tms_sm (a b : UInt8) : tms a b = sm 8 a b := by unfold tms; rw [tmsGo_sm]; simp
theorem sm_add_r : ∀ (f : Nat) (a b c : UInt8), sm f a (b ^^^ c) = sm f a b ^^^ sm f a c
  | 0, _, _, _ => by simp [sm]
  | f + 1, a, b, c => by
    rw [sm, sm, sm, u8_xor_shr, sm_add_r f, u8_xor_and, x_comm4]
    congr 1
    rcases low_bit b with hb | hb <;> rcases low_bit c with hc | hc <;> rw [hb, hc] <;> simp
theorem sm_add_l : ∀ (f : Nat) (a b c : UInt8), sm f (a ^^^ b) c = sm f a c ^^^ sm f b c
  | 0, _, _, _ => by simp [sm]
  | f + 1, a, b, c => by
    rw [sm, sm, sm, dbl_xor, sm_add_l f, x_comm4]
    congr 1
    split <;> simp
theorem tms_add_r (a b c : UInt8) : tms a (b ^^^ c) = tms a b ^^^ tms a c := by simp only [tms_sm, sm_add_r]
theorem tms_add_l (a b c : UInt8) : tms (a ^^^ b) c = tms a c ^^^ tms b c := by simp only [tms_sm, sm_add_l]

/-- Two additive maps that agree at the eight bits agree. -/
theorem add_ext {f g : UInt8 → UInt8} (hf : ∀ x y, f (x ^^^ y) = f x ^^^ f y) (hg : ∀ x y, g (x ^^^ y) = g x ^^^ g y)
    (h : ∀ m ∈ ([1, 2, 4, 8, 16, 32, 64, 128] : List UInt8), f m = g m) (x : UInt8) : f x = g x := by
  have f0 : f 0 = 0 := by have := hf 0 0; simpa using this
  have g0 : g 0 = 0 := by have := hg 0 0; simpa using this
  have hb : ∀ m ∈ ([1, 2, 4, 8, 16, 32, 64, 128] : List UInt8), f (x &&& m) = g (x &&& m) := fun m hm => by
    rcases bit_or x m hm with e | e <;> rw [e]
    · rw [f0, g0]
    · exact h m hm
  rw [bits_sum x]
  simp only [hf, hg]
  rw [hb 1 (by simp), hb 2 (by simp), hb 4 (by simp), hb 8 (by simp), hb 16 (by simp), hb 32 (by simp), hb 64 (by simp), hb 128 (by simp)]
def ms : List UInt8 := [1, 2, 4, 8, 16, 32, 64, 128]
theorem commChk : (ms.all fun a => ms.all fun b => tms a b == tms b a) = true := by kernel_rfl
theorem assocChk : (ms.all fun a => ms.all fun b => ms.all fun c => tms (tms a b) c == tms a (tms b c)) = true := by kernel_rfl
theorem oneChk : (ms.all fun a => tms 1 a == a) = true := by kernel_rfl
theorem tms_comm (a b : UInt8) : tms a b = tms b a := by
  refine add_ext (f := fun b => tms a b) (g := fun b => tms b a) (fun x y => tms_add_r a x y) (fun x y => tms_add_l x y a) (fun m hm => ?_) b
  refine add_ext (f := fun a => tms a m) (g := fun a => tms m a) (fun x y => tms_add_l x y m) (fun x y => tms_add_r m x y) (fun k hk => ?_) a
  have := List.all_eq_true.1 (List.all_eq_true.1 commChk k hk) m hm
  exact beq_iff_eq.1 this
theorem tms_assoc (a b c : UInt8) : tms (tms a b) c = tms a (tms b c) := by
  refine add_ext (f := fun a => tms (tms a b) c) (g := fun a => tms a (tms b c)) (fun x y => by simp only [tms_add_l]) (fun x y => by simp only [tms_add_l]) (fun i hi => ?_) a
  refine add_ext (f := fun b => tms (tms i b) c) (g := fun b => tms i (tms b c)) (fun x y => by simp only [tms_add_l, tms_add_r]) (fun x y => by simp only [tms_add_l, tms_add_r]) (fun j hj => ?_) b
  refine add_ext (f := fun c => tms (tms i j) c) (g := fun c => tms i (tms j c)) (fun x y => by simp only [tms_add_r]) (fun x y => by simp only [tms_add_r]) (fun k hk => ?_) c
  have := List.all_eq_true.1 (List.all_eq_true.1 (List.all_eq_true.1 assocChk i hi) j hj) k hk
  exact beq_iff_eq.1 this
theorem tms_one (a : UInt8) : tms 1 a = a := by
  refine add_ext (f := fun a => tms 1 a) (g := fun a => a) (fun x y => tms_add_r 1 x y) (fun x y => rfl) (fun m hm => ?_) a
  exact beq_iff_eq.1 (List.all_eq_true.1 oneChk m hm)
end Go.Proofs.Ytnbjpilanjngmaa.XS
