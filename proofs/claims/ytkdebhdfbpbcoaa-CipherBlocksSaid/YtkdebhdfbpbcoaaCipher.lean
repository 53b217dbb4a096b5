/- The walks over package cipher: what each function does, each once. -/
import Derived.Test.YtkdebhdfbpbcoaaRows
import Derived.Test.YtkdebhdfbpbcoaaAes
namespace Go.Proofs.Ytkdebhdfbpbcoaa.XS
open Go Go.RowKit

set_option maxHeartbeats 400000 in
theorem double_any (a : UInt8) (w : World) :
    Calls Try.prog 19 #[.int .u8 (a.toNat : Int)] w fun e w' => e = .returned (.int .u8 ((dbl a).toNat : Int)) ∧ w = w' := by
  have ha := a.toNat_lt
  by_cases h : 128 ≤ (a.toNat : Int)
  · have H := Lib.hid (dbl_hi a h)
    go_enter Try.func19, Try.ntmps19
    go_wp2
    go_ret
    exact ⟨by rw [← H.out]; rfl, rfl⟩
  · have H := Lib.hid (dbl_lo a h)
    go_enter Try.func19, Try.ntmps19
    go_wp2
    go_ret
    exact ⟨by rw [← H.out]; rfl, rfl⟩

set_option maxHeartbeats 400000 in
theorem times_any (a b : UInt8) (w : World) :
    Calls Try.prog 10 #[.int .u8 (a.toNat : Int), .int .u8 (b.toNat : Int)] w fun e w' => e = .returned (.int .u8 ((tms a b).toNat : Int)) ∧ w = w' := by
  go_enter Try.func10, Try.ntmps10
  go_wp2
  go_loop [0, 1, 5] (fun va vb vo => ∃ (f : Nat) (x y o : UInt8), Hid (y.toNat < 2 ^ f ∧ tms a b = tmsGo f x y o) ∧ va = .int .u8 (x.toNat : Int) ∧ vb = .int .u8 (y.toNat : Int) ∧ vo = .int .u8 (o.toNat : Int)) (fun _ vb _ => (intOf vb).toNat)
  case atStart => exact ⟨8, a, b, 0, ⟨b.toNat_lt, rfl⟩, rfl, rfl, rfl⟩
  case round =>
    obtain ⟨f, x, y, o, H, rfl, rfl, rfl⟩ := hrel
    have hy := y.toNat_lt
    by_cases h0 : (0 : Int) < (y.toNat : Int)
    · have hy0 : ¬ y = 0 := fun e => by subst e; simp at h0
      have hband := Lib.hid (bits_and_u8 y 1)
      have hlt : (y >>> 1).toNat < y.toNat := by have := shr_int y; omega
      have hR : Hid (∃ f', (y >>> 1).toNat < 2 ^ f' ∧ tms a b = tmsGo f' (dbl x) (y >>> 1) (if y &&& 1 = 1 then o ^^^ x else o)) := by
        obtain ⟨hf, ht⟩ := H.out
        cases f with
        | zero => exfalso; simp at hf; omega
        | succ f =>
          rw [tmsGo, if_neg hy0] at ht
          exact ⟨f, by have := shr_int y; omega, ht⟩
      clear H
      by_cases h1 : y &&& 1 = 1
      · rw [if_pos h1] at hR
        have hb1 : (bits .and .u8 (y.toNat : Int) 1 == 1) = true := by rw [show (1 : Int) = ((1 : UInt8).toNat : Int) from rfl, hband.out, h1]; rfl
        clear h1
        go_wp2_with (go_at_call 19; refine (double_any _ _).mono ?_; rintro e w1 ⟨rfl, rfl⟩)
        go_round
        case rel =>
          obtain ⟨f', h1, h2⟩ := hR.out
          exact ⟨f', dbl x, y >>> 1, o ^^^ x, ⟨h1, h2⟩, rfl, by rw [shr_int], by rw [bits_xor_u8]⟩
        case measure => have := shr_int y; simp [intOf]; omega
      · rw [if_neg h1] at hR
        have hb1 : (bits .and .u8 (y.toNat : Int) 1 == 1) = false := by
          rw [show (1 : Int) = ((1 : UInt8).toNat : Int) from rfl, hband.out, beq_eq_false_iff_ne]
          intro e; exact h1 (UInt8.toNat_inj.1 (by omega))
        clear h1
        go_wp2_with (go_at_call 19; refine (double_any _ _).mono ?_; rintro e w1 ⟨rfl, rfl⟩)
        go_round
        case rel =>
          obtain ⟨f', h1, h2⟩ := hR.out
          exact ⟨f', dbl x, y >>> 1, o, ⟨h1, h2⟩, rfl, by rw [shr_int], rfl⟩
        case measure => have := shr_int y; simp [intOf]; omega
    · have hy0 : y = 0 := UInt8.toNat_inj.1 (by simp; omega)
      have hR : Hid (tms a b = o) := by
        have := H.out.2
        rw [hy0] at this
        show tms a b = o
        cases f <;> simpa [tmsGo] using this
      clear H hy0
      go_wp2
      go_ret
      exact ⟨by rw [hR.out]; rfl, rfl⟩

set_option maxHeartbeats 400000 in
set_option maxRecDepth 100000 in
theorem box_any (w : World) :
    Calls Try.prog 21 #[] w fun e w' => e = .returned (.agg boxV) ∧ Below w.heap.size w w' := by
  rw [boxV_eq]
  have hz : ∀ w : World, (zeroValue 43).run Try.prog w = .ok (.agg (bytesV (zeros 256))) w := fun w => by kernel_rfl
  go_enter Try.func21, Try.ntmps21
  go_wp2_with (first
    | (refine wpList_buildC rfl _ _ rfl (bytesV boxT) (by kernel_rfl) ?_)
    | (refine wpList_storeR rfl _ _ _ rfl w.heap.size (bytesV boxT) _ rfl rfl 43 (Blk.new _ _ _) 256 (by kernel_rfl) (by rw [bytesV_size, boxT_length]) (by rw [bytesV_size, zeros_length]) (bytesV_one _) ?_))
  exact ret_row rfl w.heap.size (bytesV boxT) 43 rfl ((Blk.new _ _ _).row _) (by kernel_rfl) 256 (by kernel_rfl) (by rw [bytesV_size, boxT_length]) rfl
    ⟨rfl, Below.row ((Below.refl _ _).alloc (Nat.le_refl _) _) (Nat.le_refl _) _⟩


set_option maxHeartbeats 400000 in
theorem box1_any (x : UInt8) (w : World) :
    Calls Try.prog 12 #[.int .u8 (x.toNat : Int)] w fun e w' => e = .returned (.int .u8 ((bx x).toNat : Int)) ∧ Below w.heap.size w w' := by
  have hx := x.toNat_lt
  have hbox := box_at x
  go_enter Try.func12, Try.ntmps12
  go_wp2_with (first
    | (go_at_call 21; refine (box_any _).mono ?_; rintro e w1 ⟨rfl, hb1⟩)
    | (refine wpList_indexA rfl _ _ _ rfl boxV rfl _ (x.toNat : Int) rfl 256 5 (by kernel_rfl) (by kernel_rfl) (by omega) (by omega) _ (by simpa using hbox) ?_))
  go_ret
  exact ⟨rfl, by assumption⟩
end Go.Proofs.Ytkdebhdfbpbcoaa.XS
