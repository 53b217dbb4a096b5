/- Sums with a key and keys of passwords in plain Lean. No program in sight. -/
import Derived.Test.YtnbjpilanjngmaaSha
namespace Go.Proofs.Ytnbjpilanjngmaa.XS
open Go

/-- A key as a block. -/
def hk (key : List UInt8) : List UInt8 := if 64 < key.length then mk 20 (sha key) else key
def hkx (key : List UInt8) (x : UInt8) : List UInt8 := mk 64 fun i => xr (byteAt (hk key) i) x
def hmac (key b : List UInt8) : Nat → UInt8 := sha (hkx key 0x5c ++ mk 20 (sha (hkx key 0x36 ++ b)))
def saltN (salt : List UInt8) (i : Nat) : List UInt8 := salt ++ [0, 0, UInt8.ofNat (i / 256), UInt8.ofNat i]
def ub (pw salt : List UInt8) (i : Nat) : Nat → Nat → UInt8
  | 0 => hmac pw (saltN salt i)
  | k + 1 => hmac pw (mk 20 (ub pw salt i k))
def tb (pw salt : List UInt8) (i : Nat) : Nat → Nat → UInt8
  | 0 => ub pw salt i 0
  | k + 1 => fun n => xr (tb pw salt i k n) (ub pw salt i (k + 1) n)
/-- Byte p of a password's key. -/
def pbk (pw salt : List UInt8) (rounds p : Nat) : UInt8 := tb pw salt (p / 20 + 1) (rounds - 1) (p % 20)
theorem hmac_length (key b : List UInt8) : (mk 20 (hmac key b)).length = 20 := mk_length _ _
end Go.Proofs.Ytnbjpilanjngmaa.XS
