/- The digest of layer 10 in plain Lean. No program in sight. -/
import Derived.Test.YtnbjpilanjngmaaLib2
namespace Go.Proofs.Ytnbjpilanjngmaa.XS
open Go

/-! ### Words of 32 bits, under names that 'simp' leaves alone -/
def xw (x y : UInt32) : UInt32 := x ^^^ y
def nw (x y : UInt32) : UInt32 := x &&& y
def ow (x y : UInt32) : UInt32 := x ||| y
def aw (x y : UInt32) : UInt32 := x + y
def cw (x : UInt32) : UInt32 := 4294967295 ^^^ x
/-- A word turned round to the left. -/
def rot (x : UInt32) (n : Nat) : UInt32 := UInt32.ofNat ((x.toNat <<< n) % 4294967296 ||| (x.toNat >>> (32 - n)))
/-- A byte behind a word. -/
def sh8 (x : UInt32) (b : UInt8) : UInt32 := UInt32.ofNat ((x.toNat * 256) % 4294967296 ||| b.toNat)
def be4 (f : Nat → UInt8) : Nat → UInt32
  | 0 => 0
  | k + 1 => sh8 (be4 f k) (f k)

structure S5 where
  a : UInt32
  b : UInt32
  c : UInt32
  d : UInt32
  e : UInt32
def S5.at (s : S5) (i : Nat) : UInt32 := if i = 0 then s.a else if i = 1 then s.b else if i = 2 then s.c else if i = 3 then s.d else s.e
def s0 : S5 := ⟨0x67452301, 0xefcdab89, 0x98badcfe, 0x10325476, 0xc3d2e1f0⟩
/-- Word t of a block. -/
def wd (f : Nat → UInt8) (t : Nat) : UInt32 :=
  if h : t < 16 then be4 (fun k => f (4 * t + k)) 4
  else rot (xw (xw (xw (wd f (t - 3)) (wd f (t - 8))) (wd f (t - 14))) (wd f (t - 16))) 1
termination_by t
theorem wd_low {f : Nat → UInt8} {t : Nat} (h : t < 16) : wd f t = be4 (fun k => f (4 * t + k)) 4 := by rw [wd, dif_pos h]
theorem wd_high {f : Nat → UInt8} {t : Nat} (h : 16 ≤ t) : wd f t = rot (xw (xw (xw (wd f (t - 3)) (wd f (t - 8))) (wd f (t - 14))) (wd f (t - 16))) 1 := by rw [wd, dif_neg (by omega)]
def fF (t : Nat) (b c d : UInt32) : UInt32 :=
  if t < 20 then ow (nw b c) (nw (cw b) d) else if t < 40 then xw (xw b c) d else if t < 60 then ow (ow (nw b c) (nw b d)) (nw c d) else xw (xw b c) d
def fK (t : Nat) : UInt32 := if t < 20 then 0x5a827999 else if t < 40 then 0x6ed9eba1 else if t < 60 then 0x8f1bbcdc else 0xca62c1d6
def step (t : Nat) (s : S5) (x : UInt32) : S5 := ⟨aw (aw (aw (aw (rot s.a 5) (fF t s.b s.c s.d)) s.e) (fK t)) x, s.a, rot s.b 30, s.c, s.d⟩
def rnds (f : Nat → UInt8) (s : S5) : Nat → S5
  | 0 => s
  | t + 1 => step t (rnds f s t) (wd f t)
/-- The state behind a block. -/
def cmpr (f : Nat → UInt8) (s : S5) : S5 := let r := rnds f s 80; ⟨aw s.a r.a, aw s.b r.b, aw s.c r.c, aw s.d r.d, aw s.e r.e⟩
theorem be4_congr {f g : Nat → UInt8} : ∀ k, (∀ j, j < k → f j = g j) → be4 f k = be4 g k
  | 0, _ => rfl
  | k + 1, h => by unfold be4; rw [be4_congr k fun j hj => h j (by omega), h k (by omega)]
theorem wd_congr {f g : Nat → UInt8} (h : ∀ j, j < 64 → f j = g j) : ∀ t, wd f t = wd g t := by
  intro t
  induction t using Nat.strongRecOn with
  | _ t ih =>
    by_cases ht : t < 16
    · rw [wd_low ht, wd_low ht]; exact be4_congr 4 fun j hj => h _ (by omega)
    · rw [wd_high (f := f) (t := t) (by omega), wd_high (f := g) (t := t) (by omega), ih (t - 3) (by omega), ih (t - 8) (by omega), ih (t - 14) (by omega), ih (t - 16) (by omega)]
theorem rnds_congr {f g : Nat → UInt8} (h : ∀ j, j < 64 → f j = g j) (s : S5) : ∀ t, rnds f s t = rnds g s t
  | 0 => rfl
  | t + 1 => by unfold rnds; rw [rnds_congr h s t, wd_congr h t]
theorem cmpr_congr {f g : Nat → UInt8} (h : ∀ j, j < 64 → f j = g j) (s : S5) : cmpr f s = cmpr g s := by unfold cmpr; rw [rnds_congr h s 80]
/-- The state behind k blocks. -/
def stN (g : Nat → UInt8) : Nat → S5
  | 0 => s0
  | k + 1 => cmpr (fun j => g (64 * k + j)) (stN g k)
theorem stN_congr {f g : Nat → UInt8} : ∀ k, (∀ j, j < 64 * k → f j = g j) → stN f k = stN g k
  | 0, _ => rfl
  | k + 1, h => by unfold stN; rw [stN_congr k fun j hj => h j (by omega)]; exact cmpr_congr (fun j hj => h _ (by omega)) _
def byteAt (m : List UInt8) (p : Nat) : UInt8 := m[p]?.getD 0
/-- The state behind the whole blocks of a message. -/
def st (m : List UInt8) : S5 := stN (byteAt m) (m.length / 64)
theorem byteAt_left {m x : List UInt8} {p : Nat} (h : p < m.length) : byteAt (m ++ x) p = byteAt m p := by unfold byteAt; rw [List.getElem?_append_left h]
theorem byteAt_right {m x : List UInt8} {p : Nat} (h : m.length ≤ p) : byteAt (m ++ x) p = byteAt x (p - m.length) := by unfold byteAt; rw [List.getElem?_append_right h]
/-- More bytes, but no whole block. -/
theorem st_short {m x : List UInt8} (h : m.length % 64 + x.length < 64) : st (m ++ x) = st m := by
  unfold st
  rw [show (m ++ x).length / 64 = m.length / 64 by rw [List.length_append]; omega]
  exact stN_congr _ fun j hj => byteAt_left (by omega)
/-- More bytes that fill the block. -/
theorem st_full {m x : List UInt8} (h : m.length % 64 + x.length = 64) : st (m ++ x) = cmpr (fun j => byteAt (m ++ x) (m.length / 64 * 64 + j)) (st m) := by
  unfold st
  rw [show (m ++ x).length / 64 = m.length / 64 + 1 by rw [List.length_append]; omega, stN, Nat.mul_comm 64, stN_congr (f := byteAt (m ++ x)) (g := byteAt m) _ fun j hj => byteAt_left (by omega)]

/-! ### A Hash in memory -/
def u32V (x : UInt32) : Value := .int .u32 (x.toNat : Int)
def wordsV (n : Nat) (f : Nat → UInt32) : Array Value := ((List.range n).map fun i => u32V (f i)).toArray
theorem wordsV_size (n : Nat) (f : Nat → UInt32) : (wordsV n f).size = n := by simp [wordsV]
theorem wordsV_get {n : Nat} {f : Nat → UInt32} {k : Nat} (h : k < n) : (wordsV n f)[k]? = some (.int .u32 ((f k).toNat : Int)) := by simp [wordsV, h, u32V]
theorem wordsV_congr {n : Nat} {f g : Nat → UInt32} (h : ∀ i, i < n → f i = g i) : wordsV n f = wordsV n g := by
  unfold wordsV; congr 1; exact List.map_congr_left fun i hi => by rw [h i (by simpa using hi)]
theorem wordsV_one (n : Nat) (f : Nat → UInt32) : (wordsV n f).all (·.oneCell') = true := by simp [wordsV, u32V, Value.oneCell']
theorem wordsV_set (n : Nat) (f : Nat → UInt32) (k : Nat) (x : UInt32) : (wordsV n f).setIfInBounds k (.int .u32 (x.toNat : Int)) = wordsV n fun i => if i = k then x else f i := by
  apply Array.ext_getElem?
  intro p
  rw [Array.getElem?_setIfInBounds, wordsV_size]
  by_cases hp : p < n
  · rw [wordsV_get hp]
    by_cases h : k = p
    · subst h; rw [if_pos rfl, if_pos hp, wordsV_get hp, if_pos rfl]
    · rw [if_neg h, wordsV_get hp, if_neg (Ne.symm h)]
  · rw [Array.getElem?_eq_none (by rw [wordsV_size]; omega), Array.getElem?_eq_none (by rw [wordsV_size]; omega)]
    by_cases h : k = p
    · subst h; simp [hp]
    · rw [if_neg h]
theorem wordsV_step {n k : Nat} (f g : Nat → UInt32) : (wordsV n fun i => if i < k then f i else g i).setIfInBounds k (.int .u32 ((f k).toNat : Int)) = wordsV n fun i => if i < k + 1 then f i else g i := by
  rw [wordsV_set]
  apply wordsV_congr
  intro i _
  by_cases h : i = k
  · subst h; simp
  · by_cases h2 : i < k
    · simp [h, h2, show i < k + 1 by omega]
    · simp [h, h2, show ¬ i < k + 1 by omega]
/-- The five words, what waits, how many wait, how many came in all. -/
def hV (s : S5) (wt : Nat → UInt8) (many all : Nat) : Array Value := wordsV 5 s.at ++ bytesV (mk 64 wt) ++ #[.int .i64 (many : Int), .int .u64 (all : Int)]
theorem hV_size (s : S5) (wt : Nat → UInt8) (many all : Nat) : (hV s wt many all).size = 71 := by simp [hV, wordsV_size, bytesV_size, mk_length]
theorem hV_get (s : S5) (wt : Nat → UInt8) (many all p : Nat) : (hV s wt many all)[p]? = if p < 5 then some (.int .u32 ((s.at p).toNat : Int)) else if p < 69 then some (.int .u8 ((wt (p - 5)).toNat : Int)) else if p = 69 then some (.int .i64 (many : Int)) else if p = 70 then some (.int .u64 (all : Int)) else none := by
  unfold hV
  by_cases h5 : p < 5
  · rw [if_pos h5, Array.getElem?_append_left (by simp [wordsV_size, bytesV_size, mk_length]; omega), Array.getElem?_append_left (by rw [wordsV_size]; exact h5), wordsV_get h5]
  · rw [if_neg h5]
    by_cases h69 : p < 69
    · rw [if_pos h69, Array.getElem?_append_left (by simp [wordsV_size, bytesV_size, mk_length]; omega), Array.getElem?_append_right (by rw [wordsV_size]; omega), wordsV_size, bytesV_get _ _ (by rw [mk_length]; omega), mk_get (by omega)]
    · rw [if_neg h69, Array.getElem?_append_right (by simp [wordsV_size, bytesV_size, mk_length]; omega)]
      have e : (wordsV 5 s.at ++ bytesV (mk 64 wt)).size = 69 := by simp [wordsV_size, bytesV_size, mk_length]
      rw [e]
      by_cases ha : p = 69
      · subst ha; rfl
      · rw [if_neg ha]
        by_cases hb : p = 70
        · subst hb; rfl
        · rw [if_neg hb, Array.getElem?_eq_none (by simp; omega)]
/-- What a message's bytes that wait are; behind them anything. -/
def Waits (m : List UInt8) (wt : Nat → UInt8) : Prop := ∀ j, j < m.length % 64 → wt j = byteAt m (m.length / 64 * 64 + j)
/-- The cells of a Hash to which a message was written. -/
def RepH (m : List UInt8) (cs : Array Value) : Prop := ∃ wt, Waits m wt ∧ cs = hV (st m) wt (m.length % 64) m.length
theorem RepH.size {m : List UInt8} {cs : Array Value} (h : RepH m cs) : cs.size = 71 := by obtain ⟨wt, _, rfl⟩ := h; exact hV_size _ _ _ _
/-- What waits behind some bytes more. -/
def wtPut (wt : Nat → UInt8) (k : Nat) (x : Nat → UInt8) (n : Nat) : Nat → UInt8 := fun j => if k ≤ j ∧ j < k + n then x (j - k) else wt j
theorem waits_short {m x : List UInt8} {wt : Nat → UInt8} (h : Waits m wt) (hx : m.length % 64 + x.length < 64) : Waits (m ++ x) (wtPut wt (m.length % 64) (byteAt x) x.length) := by
  intro j hj
  rw [List.length_append] at hj ⊢
  rw [show (m.length + x.length) % 64 = m.length % 64 + x.length by omega] at hj
  rw [show (m.length + x.length) / 64 = m.length / 64 by omega]
  unfold wtPut
  by_cases hc : m.length % 64 ≤ j
  · rw [if_pos ⟨hc, hj⟩, byteAt_right (by omega)]; congr 1; omega
  · rw [if_neg (by omega), h j (by omega), byteAt_left (by omega)]
theorem full_cmpr {m x : List UInt8} {wt : Nat → UInt8} (h : Waits m wt) (hx : m.length % 64 + x.length = 64) : cmpr (wtPut wt (m.length % 64) (byteAt x) x.length) (st m) = st (m ++ x) := by
  rw [st_full hx]
  refine cmpr_congr (fun j hj => ?_) _
  unfold wtPut
  by_cases hc : m.length % 64 ≤ j
  · rw [if_pos ⟨hc, by omega⟩, byteAt_right (by omega)]; congr 1; omega
  · rw [if_neg (by omega), h j (by omega), byteAt_left (by omega)]
theorem RepH.new : RepH [] (hV s0 (fun _ => 0) 0 0) := ⟨_, fun j hj => by simp at hj, rfl⟩

/-! ### The digest -/
def zc (n : Nat) : Nat := (119 - n % 64) % 64
def len8 (n : Nat) : List UInt8 := mk 8 fun i => UInt8.ofNat (8 * n / 2 ^ (56 - 8 * i))
/-- The whole message. -/
def padL (m : List UInt8) : List UInt8 := m ++ [128] ++ zeros (zc m.length) ++ len8 m.length
def outB (s : S5) (i : Nat) : UInt8 := UInt8.ofNat ((s.at (i / 4)).toNat / 2 ^ (24 - 8 * (i % 4)))
def sha (m : List UInt8) : Nat → UInt8 := outB (st (padL m))
theorem padL_length (m : List UInt8) : (padL m).length = m.length + 1 + zc m.length + 8 := by simp [padL, zeros_length, len8, mk_length]; omega
theorem padL_mod (m : List UInt8) : (padL m).length % 64 = 0 := by rw [padL_length]; unfold zc; omega
end Go.Proofs.Ytnbjpilanjngmaa.XS
