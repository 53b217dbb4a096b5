/- The walks over the reference of layer 12. -/
import Derived.Test.YtnbjpilanjngmaaRef12Q
import Derived.Test.YtnbjpilanjngmaaRows
namespace Go.Proofs.Ytnbjpilanjngmaa.XS
open Go Go.RowKit

theorem wraps_i64 (n : Int) (h₀ : 0 ≤ n) (h₁ : n < 2 ^ 16) : IntKind.i64.wrap n = n := by rw [IntKind.wrap_i64]; omega
theorem bt_bits (x i : Nat) (hx : x < 65536) : bits .and .i64 ((x : Int) / 2 ^ i) 1 = (bt x i : Int) := by
  have h1 : x / 2 ^ i < 2 ^ 16 := Nat.lt_of_le_of_lt (Nat.div_le_self _ _) hx
  have h := (bits_nat .i64 16 (by decide) wraps_i64 (x / 2 ^ i) 1 h1 (by decide)).1
  have e : ((x / 2 ^ i : Nat) : Int) = (x : Int) / 2 ^ i := by simp
  rw [e] at h
  refine Eq.trans h ?_
  congr 1
  rw [Nat.and_one_is_mod]
  unfold bt
  rw [Nat.testBit_eq_decide_div_mod_eq]
  rcases Nat.mod_two_eq_zero_or_one (x / 2 ^ i) with h | h <;> simp [h]
set_option maxHeartbeats 400000 in
theorem bit12_any (x i : Nat) (hx : x < 65536) (hi : i < 64) (w : World) :
    Calls Try.prog 46 #[.int .i64 (x : Int), .int .i64 (i : Int)] w fun e w' => e = .returned (.int .i64 (bt x i : Int)) ∧ w = w' := by
  have hb := Lib.hid (bt_bits x i hx)
  go_enter Try.func46, Try.ntmps46
  go_wp2
  go_ret
  exact ⟨by rw [← hb.out]; rfl, rfl⟩
theorem xs_bits (p a k : Nat) (hp : p < 2 ^ 16) (h16 : a * 2 ^ k < 2 ^ 16) : bits .xor .i64 (p : Int) (wrap64 ((a : Int) * 2 ^ k)) = ((p ^^^ (a <<< k) : Nat) : Int) := by
  have e : wrap64 ((a : Int) * 2 ^ k) = ((a <<< k : Nat) : Int) := by
    rw [Nat.shiftLeft_eq]
    have : ((a * 2 ^ k : Nat) : Int) = (a : Int) * 2 ^ k := by simp
    rw [← this]
    unfold wrap64; omega
  rw [e]
  exact bits_nat_xor .i64 16 (by decide) wraps_i64 _ _ hp (by rw [Nat.shiftLeft_eq]; exact h16)
theorem bt_one {x i : Nat} (h : (((bt x i : Nat) : Int) == 1) = true) : x.testBit i = true := by
  rw [beq_iff_eq] at h
  unfold bt at h
  cases hb : x.testBit i <;> simp [hb] at h ⊢
theorem bt_zero {x i : Nat} (h : (((bt x i : Nat) : Int) == 1) = false) : x.testBit i = false := by
  rw [beq_eq_false_iff_ne] at h
  unfold bt at h
  cases hb : x.testBit i <;> simp [hb] at h ⊢
set_option maxHeartbeats 400000 in
theorem times12_any (a b : UInt8) (w : World) :
    Calls Try.prog 37 #[.int .u8 (a.toNat : Int), .int .u8 (b.toNat : Int)] w fun e w' => e = .returned (.int .u8 ((tms a b).toNat : Int)) ∧ w = w' := by
  have ha := a.toNat_lt
  have hb := b.toNat_lt
  have hT : ∀ k, k ≤ 8 → tp a.toNat b.toNat k < 2 ^ 16 := fun k hk => Nat.lt_of_lt_of_le (tp_lt (by omega) _ k) (Nat.pow_le_pow_right (by omega) (by omega))
  have HT := Lib.hid hT; clear hT
  go_enter Try.func37, Try.ntmps37
  go_wp2
  go_loop [5, 6] (fun vp vi => ∃ k : Nat, k ≤ 8 ∧ vp = .int .i64 (tp a.toNat b.toNat k : Int) ∧ vi = .int .i64 (k : Int)) (fun _ vi => 8 - (intOf vi).toNat)
  case atStart => exact ⟨0, by omega, rfl, rfl⟩
  case round =>
    obtain ⟨k, hk, rfl, rfl⟩ := hrel
    by_cases hlt : k < 8
    · go_wp2_with (go_at_call 46; refine (bit12_any b.toNat k (by omega) (by omega) _).mono ?_; rintro e w1 ⟨rfl, rfl⟩)
      · rename_i hbit
        go_round
        case rel =>
          refine ⟨k + 1, by omega, ?_, by go_num⟩
          have h2 : a.toNat * 2 ^ k < 2 ^ 16 := by
            calc a.toNat * 2 ^ k < 2 ^ 8 * 2 ^ k := Nat.mul_lt_mul_of_pos_right ha (Nat.two_pow_pos k)
              _ = 2 ^ (8 + k) := (Nat.pow_add 2 8 k).symm
              _ ≤ _ := Nat.pow_le_pow_right (by omega) (by omega)
          rw [xs_bits _ _ _ (HT.out k hk) h2, tp, if_pos (bt_one hbit)]
        case measure => simp [intOf]; omega
      · rename_i hbit
        go_round
        case rel =>
          refine ⟨k + 1, by omega, ?_, by go_num⟩
          rw [tp, if_neg (by rw [bt_zero hbit]; decide)]
        case measure => simp [intOf]; omega
    · obtain rfl : k = 8 := by omega
      go_wp2
      have hR : ∀ k, rd (tp a.toNat b.toNat 8) k < 2 ^ 16 := rd_lt (HT.out 8 (by omega))
      have HR := Lib.hid hR; clear hR
      go_loop [5, 7] (fun vp vi => ∃ i : Nat, 7 ≤ i ∧ i ≤ 14 ∧ vp = .int .i64 (rd (tp a.toNat b.toNat 8) (14 - i) : Int) ∧ vi = .int .i64 (i : Int)) (fun _ vi => (intOf vi).toNat)
      case atStart => exact ⟨14, by omega, by omega, rfl, rfl⟩
      case round =>
        obtain ⟨i, hi7, hi14, rfl, rfl⟩ := hrel
        by_cases hlt : 8 ≤ i
        · go_wp2_with (go_at_call 46; refine (bit12_any (rd (tp a.toNat b.toNat 8) (14 - i)) i (by have := HR.out (14 - i); omega) (by omega) _).mono ?_; rintro e w1 ⟨rfl, rfl⟩)
          · rename_i hbit
            go_round
            case rel =>
              refine ⟨i - 1, by omega, by omega, ?_, by go_num⟩
              rw [show 14 - (i - 1) = (14 - i) + 1 by omega, rd, show 14 - (14 - i) = i by omega, show 6 - (14 - i) = i - 8 by omega, if_pos (bt_one hbit)]
              have h2 : 283 * 2 ^ (i - 8) < 2 ^ 16 :=
                calc 283 * 2 ^ (i - 8) ≤ 283 * 2 ^ 6 := Nat.mul_le_mul_left _ (Nat.pow_le_pow_right (by omega) (by omega))
                  _ < 2 ^ 16 := by decide
              have := xs_bits _ 283 (i - 8) (HR.out (14 - i)) h2
              exact congrArg _ this
            case measure => simp [intOf]; omega
          · rename_i hbit
            go_round
            case rel =>
              refine ⟨i - 1, by omega, by omega, ?_, by go_num⟩
              rw [show 14 - (i - 1) = (14 - i) + 1 by omega, rd, show 14 - (14 - i) = i by omega, if_neg (by rw [bt_zero hbit]; decide)]
            case measure => simp [intOf]; omega
        · obtain rfl : i = 7 := by omega
          go_wp2
          go_ret
          refine ⟨?_, rfl⟩
          rw [← timesR_eq]
          show _ = Ending.returned (Value.int .u8 ((UInt8.ofNat (timesN a.toNat b.toNat)).toNat : Int))
          rw [UInt8.toNat_ofNat']
          show _ = Ending.returned (Value.int .u8 ((rd (tp a.toNat b.toNat 8) 7 % 256 : Nat) : Int))
          rw [Int.natCast_emod]
          rfl
theorem xb {a b : Nat} (ha : a < 2) (hb : b < 2) : bits .xor .i64 (a : Int) (b : Int) = ((a ^^^ b : Nat) : Int) := bits_nat_xor .i64 16 (by decide) wraps_i64 _ _ (Nat.lt_trans ha (by decide)) (Nat.lt_trans hb (by decide))
theorem bt99 (i : Nat) : bits .and .i64 ((99 : Int) / 2 ^ i) 1 = (bt 99 i : Int) := by
  have h := bt_bits 99 i (by omega)
  exact h
theorem ab_bits (y i : Nat) (hy : y < 256) :
    bits .xor .i64 (bits .xor .i64 (bits .xor .i64 (bits .xor .i64 (bits .xor .i64 (bits .and .i64 ((y : Int) / 2 ^ i) 1) (bits .and .i64 ((y : Int) / 2 ^ ((i + 4) % 8)) 1))
      (bits .and .i64 ((y : Int) / 2 ^ ((i + 5) % 8)) 1)) (bits .and .i64 ((y : Int) / 2 ^ ((i + 6) % 8)) 1)) (bits .and .i64 ((y : Int) / 2 ^ ((i + 7) % 8)) 1)) (bits .and .i64 ((99 : Int) / 2 ^ i) 1) = ((ab y i : Nat) : Int) := by
  have hy' : y < 65536 := by omega
  simp only [bt99, bt_bits y _ hy']
  have l := fun x i => bt_lt x i
  have x1 := Nat.xor_lt_two_pow (n := 1) (l y i) (l y ((i + 4) % 8))
  have x2 := Nat.xor_lt_two_pow (n := 1) x1 (l y ((i + 5) % 8))
  have x3 := Nat.xor_lt_two_pow (n := 1) x2 (l y ((i + 6) % 8))
  have x4 := Nat.xor_lt_two_pow (n := 1) x3 (l y ((i + 7) % 8))
  rw [xb (l _ _) (l _ _), xb x1 (l _ _), xb x2 (l _ _), xb x3 (l _ _), xb x4 (l _ _)]
  unfold ab; rfl
theorem w64n {n : Nat} (h : n < 65536) : wrap64 (n : Int) = (n : Int) := by unfold wrap64; omega
theorem af_step (y i : Nat) (v : Int) (hv : v = ((ab y i : Nat) : Int)) (hi : i < 8) : wrap64 ((af y i : Int) + wrap64 (v * 2 ^ i)) = (af y (i + 1) : Int) := by
  subst hv
  have h1 := af_lt y (i + 1)
  have h2 : (2 : Nat) ^ (i + 1) ≤ 256 := Nat.le_trans (Nat.pow_le_pow_right (by omega) (show i + 1 ≤ 8 by omega)) (by omega)
  have e : ((ab y i * 2 ^ i : Nat) : Int) = (ab y i : Int) * 2 ^ i := by simp
  have d : af y (i + 1) = af y i + ab y i * 2 ^ i := by rw [af, Nat.shiftLeft_eq]
  generalize af y (i + 1) = A at *
  generalize ab y i * 2 ^ i = C at *
  rw [← e, w64n (by omega), ← Int.natCast_add, w64n (by omega), d]
set_option maxHeartbeats 1000000 in
set_option maxRecDepth 100000 in
theorem box12_any (x : UInt8) (w : World) :
    Calls Try.prog 36 #[.int .u8 (x.toNat : Int)] w fun e w' => e = .returned (.int .u8 ((bx x).toNat : Int)) ∧ w = w' := by
  have hx := x.toNat_lt
  have HY := Lib.hid (yv_lt x)
  go_enter Try.func36, Try.ntmps36
  go_wp2
  go_loop [3, 4] (fun vy vk => ∃ k : Nat, k < 256 ∧ vy = .int .i64 (yv x k : Int) ∧ vk = .int .i64 ((k : Int) + 1)) (fun _ vk => 257 - (intOf vk).toNat)
  case atStart => exact ⟨0, by omega, rfl, rfl⟩
  case round =>
    obtain ⟨k, hk, rfl, rfl⟩ := hrel
    by_cases hlt : k < 255
    · obtain ⟨q, hq⟩ : ∃ q, q = UInt8.ofNat (k + 1) := ⟨_, rfl⟩
      have hT : ∀ w : World, Calls Try.prog 37 #[.int .u8 (x.toNat : Int), .int .u8 ((k : Int) + 1)] w fun e w' => e = .returned (.int .u8 ((tms x q).toNat : Int)) ∧ w = w' := fun w => by
        rw [show (k : Int) + 1 = (q.toNat : Int) by rw [hq, UInt8.toNat_ofNat']; omega]
        exact times12_any x q w
      have hstep : Hid (yv x (k + 1) = if tms x q = 1 then k + 1 else yv x k) := Lib.hid (by rw [hq]; rfl)
      clear hq
      by_cases hq : tms x q = 1
      · have hb1 : (((tms x q).toNat : Int) == 1) = true := by rw [hq]; rfl
        have H := Lib.hid hstep.out
        rw [if_pos hq] at H
        clear hq hstep
        go_wp2_with (go_at_call 37; refine (hT _).mono ?_; rintro e w1 ⟨rfl, rfl⟩)
        go_round
        case rel => exact ⟨k + 1, by omega, by rw [H.out]; go_num, by go_num⟩
        case measure => simp [intOf]; omega
      · have hb1 : (((tms x q).toNat : Int) == 1) = false := by
          rw [beq_eq_false_iff_ne]; intro e; exact hq (UInt8.toNat_inj.1 (by simpa using (by omega : (tms x q).toNat = 1)))
        have H := Lib.hid hstep.out
        rw [if_neg hq] at H
        clear hq hstep
        go_wp2_with (go_at_call 37; refine (hT _).mono ?_; rintro e w1 ⟨rfl, rfl⟩)
        go_round
        case rel => exact ⟨k + 1, by omega, by rw [H.out], by go_num⟩
        case measure => simp [intOf]; omega
    · obtain rfl : k = 255 := by omega
      go_wp2
      have HA := Lib.hid (fun i => af_lt (yv x 255) i)
      go_loop [5, 6] (fun vo vi => ∃ i : Nat, i ≤ 8 ∧ vo = .int .i64 (af (yv x 255) i : Int) ∧ vi = .int .i64 (i : Int)) (fun _ vi => 8 - (intOf vi).toNat)
      case atStart => exact ⟨0, by omega, rfl, rfl⟩
      case round =>
        obtain ⟨i, hi, rfl, rfl⟩ := hrel
        by_cases hlt : i < 8
        · go_wp2
          go_round
          case rel =>
            refine ⟨i + 1, by omega, ?_, by go_num⟩
            rw [af_step (yv x 255) i _ (ab_bits (yv x 255) i (HY.out 255 (by omega))) hlt]
          case measure => simp [intOf]; omega
        · obtain rfl : i = 8 := by omega
          go_wp2
          go_ret
          refine ⟨?_, rfl⟩
          rw [← af_eq]
          show _ = Ending.returned (Value.int .u8 ((UInt8.ofNat (af (yv x 255) 8)).toNat : Int))
          rw [UInt8.toNat_ofNat']
          have := HA.out 8
          show Ending.returned (Value.int .u8 ((af (yv x 255) 8 : Int) % 256)) = _
          rw [Int.natCast_emod]
          rfl
end Go.Proofs.Ytnbjpilanjngmaa.XS
