/- The box sends unlike bytes to unlike bytes, and none to itself. -/
import Derived.Test.YtnbjpilanjngmaaAes
import Derived.KernelRfl
namespace Go.Proofs.Ytnbjpilanjngmaa.XS
open Go
/-- The box turned round. -/
def boxI : List UInt8 := (List.range 256).map fun y => (((List.range 256).find? fun x => bx (UInt8.ofNat x) == UInt8.ofNat y).map UInt8.ofNat).getD 0
def boxChk : Bool := (List.range 256).all fun x => (bx (UInt8.ofNat x) != UInt8.ofNat x) && (boxI[(bx (UInt8.ofNat x)).toNat]?.getD 0 == UInt8.ofNat x)
theorem boxChk_true : boxChk = true := by kernel_rfl
theorem bx_ne (a : UInt8) : bx a ≠ a := by
  have h := List.all_eq_true.1 boxChk_true a.toNat (by simpa using a.toNat_lt)
  simp only [Bool.and_eq_true, UInt8.ofNat_toNat] at h
  simpa using h.1
theorem bx_inj {a b : UInt8} (e : bx a = bx b) : a = b := by
  have h := List.all_eq_true.1 boxChk_true a.toNat (by simpa using a.toNat_lt)
  have k := List.all_eq_true.1 boxChk_true b.toNat (by simpa using b.toNat_lt)
  simp only [Bool.and_eq_true, UInt8.ofNat_toNat] at h k
  have h2 := beq_iff_eq.1 h.2
  have k2 := beq_iff_eq.1 k.2
  rw [← h2, ← k2, e]
end Go.Proofs.Ytnbjpilanjngmaa.XS
