/- The walks over the reference of layer 10: the words of a block. -/
import Derived.Test.YtnbjpilanjngmaaRef10
import Derived.Test.YtnbjpilanjngmaaReg3
namespace Go.Proofs.Ytnbjpilanjngmaa.XS
open Go Go.RowKit
attribute [local go_sem] bits_xw bits_nw bits_ow bits_cw u8_mod sh8_bits add_aw

set_option maxRecDepth 20000 in
theorem sh8_nat (x : UInt32) (b : UInt8) : (sh8 x b).toNat = x.toNat * 256 % 4294967296 + b.toNat := by
  unfold sh8
  have hb := b.toNat_lt
  have e : x.toNat * 256 % 4294967296 = (x.toNat % 16777216) <<< 8 := by rw [Nat.shiftLeft_eq]; omega
  rw [e, ← Nat.shiftLeft_add_eq_or_of_lt (by omega : b.toNat < 2 ^ 8), UInt32.toNat_ofNat', Nat.shiftLeft_eq]
  omega
theorem be4_sum (f : Nat → UInt8) : (be4 f 4).toNat = (f 0).toNat * 16777216 + (f 1).toNat * 65536 + (f 2).toNat * 256 + (f 3).toNat := by
  have h0 := (f 0).toNat_lt
  have h1 := (f 1).toNat_lt
  have h2 := (f 2).toNat_lt
  have h3 := (f 3).toNat_lt
  have e1 : (be4 f 1).toNat = (f 0).toNat := by
    show (sh8 0 (f 0)).toNat = _
    rw [sh8_nat]; simp
  have e2 : (be4 f 2).toNat = (f 0).toNat * 256 + (f 1).toNat := by
    show (sh8 (be4 f 1) (f 1)).toNat = _
    rw [sh8_nat, e1]; omega
  have e3 : (be4 f 3).toNat = (f 0).toNat * 65536 + (f 1).toNat * 256 + (f 2).toNat := by
    show (sh8 (be4 f 2) (f 2)).toNat = _
    rw [sh8_nat, e2]; omega
  show (sh8 (be4 f 3) (f 3)).toNat = _
  rw [sh8_nat, e3]; omega

theorem post_drewN {B : Nat} {a w : World} (h : Below B a w) : ∀ n, Below B a (w.drewN n)
  | 0 => h
  | n + 1 => (post_drewN h n).drew
theorem own_drewN {w : World} {base : Nat} {E : TypeId} {v : Value} {m : Nat} {f : Nat → UInt32} (h : OwnW w base E v m f) : ∀ n, OwnW (w.drewN n) base E v m f
  | 0 => h
  | n + 1 => (own_drewN h n).drew
set_option maxHeartbeats 2000000 in
set_option maxRecDepth 100000 in
theorem row10_any (w : World) (g o cp : Nat) (hg : g < w.heap.size) (hcp : 64 ≤ cp) (hcp2 : cp ≤ 9223372036854775807) (f : Nat → UInt8) (hc : ∀ j, j < 64 → w.cell? ⟨g, o + j, none⟩ = some (.int .u8 ((f j).toNat : Int))) :
    Calls Try.prog 56 #[.slice (some ⟨g, o, none⟩) 64 cp] w fun e w' => ∃ v, e = .returned v ∧ OwnW w' w.heap.size 64 v 80 (wd f) ∧ Below w.heap.size w w' := by
  have HC := Lib.hid hc; clear hc
  go_enter Try.func56, Try.ntmps56
  go_wp2
  go_loopw [3, 4] (fun vw vi wr => ∃ i : Nat, i ≤ 16 ∧ vi = .int .i64 i ∧ Below w.heap.size w wr ∧ OwnW wr w.heap.size 64 vw i (wd f)) (fun _ vi _ => 16 - (intOf vi).toNat)
  case atStart => exact ⟨0, by omega, rfl, Below.refl _ _, OwnW.nil _ _ _ _⟩
  case round =>
    obtain ⟨i, hi, rfl, hb, ho⟩ := hrel
    have HB := Lib.hid hb; clear hb
    have HO := Lib.hid ho; clear ho
    by_cases hlt : i < 16
    · have hq : ∀ j, j < 4 → wr.cell? ⟨g, o + (4 * i + j), none⟩ = some (.int .u8 ((f (4 * i + j)).toNat : Int)) := fun j hj => (HB.out.cell (p := ⟨g, o + (4 * i + j), none⟩) hg).trans (HC.out _ (by omega))
      have q0 : wr.cell? ⟨g, o + 4 * i, none⟩ = some (.int .u8 ((f (4 * i)).toNat : Int)) := hq 0 (by omega)
      have q1 := hq 1 (by omega)
      have q2 := hq 2 (by omega)
      have q3 := hq 3 (by omega)
      clear hq
      have b0 := (f (4 * i)).toNat_lt
      have b1 := (f (4 * i + 1)).toNat_lt
      have b2 := (f (4 * i + 2)).toNat_lt
      have b3 := (f (4 * i + 3)).toNat_lt
      have hwd : ((wd f i).toNat : Int) = ((f (4 * i)).toNat : Int) * 16777216 + ((f (4 * i + 1)).toNat : Int) * 65536 + ((f (4 * i + 2)).toNat : Int) * 256 + ((f (4 * i + 3)).toNat : Int) := by
        rw [wd_low hlt, be4_sum]; simp
      have HWD := Lib.hid hwd; clear hwd
      have hs := HB.out.size
      go_wp2
      refine wp_region_text1 33 (by kernel_rfl) (by kernel_rfl) (by kernel_rfl) (by kernel_rfl) (by kernel_rfl) (by kernel_rfl) (by kernel_rfl) fun K hK => ?_
      simp only [List.take_succ_cons, List.take_zero]
      go_wp2
      refine hK _ _ ⟨by rfl, ?_⟩
      clear hK K
      simp only [List.drop_succ_cons, List.drop_zero]
      have hk47 : i ≤ 1000000000000 := by omega
      have HDW := Lib.hid HB.out.drew
      go_wp2_with (refine wpList_appendW rfl _ _ _ rfl w.heap.size 64 (by kernel_rfl) (by kernel_rfl) _ i (wd f) rfl (HO.out.drew.alloc _) wr.heap.size 1 rfl (by rw [HWD.out]; exact (Blk.new wr.drew _ _).cell rfl) hk47 (by simp; omega) (HDW.out.alloc hs _) ?_; intro v2 w2 ho2 hb2)
      apply_assumption
      go_wp2
      go_roundw
      case rel => exact ⟨i + 1, by omega, by go_num, hb2, ho2⟩
      case measure => simp [intOf]; omega
    · obtain rfl : i = 16 := by omega
      rw [show ((16 : Nat) : Int) = 16 from rfl]
      go_wp2
      obtain ⟨wo, rfl⟩ : ∃ wo : World, wo = wr := ⟨_, rfl⟩
      go_loopw [3, 5] (fun vw vi wr => ∃ t : Nat, 16 ≤ t ∧ t ≤ 80 ∧ vi = .int .i64 t ∧ Below w.heap.size w wr ∧ OwnW wr w.heap.size 64 vw t (wd f)) (fun _ vi _ => 80 - (intOf vi).toNat)
      case atStart => exact ⟨16, by omega, by omega, rfl, HB.out, HO.out⟩
      case round =>
        clear HB HO
        obtain ⟨t, ht1, ht2, rfl, hb, ho⟩ := hrel
        have HB := Lib.hid hb; clear hb
        have hs := HB.out.size
        by_cases hlt2 : t < 80
        · obtain ⟨q, cq, rfl, hq1, hq2, hq3, hq4⟩ := ho.form (by omega)
          have c3 := ho.cell (j := t - 3) (by omega)
          have c8 := ho.cell (j := t - 8) (by omega)
          have c14 := ho.cell (j := t - 14) (by omega)
          have c16 := ho.cell (j := t - 16) (by omega)
          have HO := Lib.hid ho; clear ho
          go_wp2
          refine wp_region_cls1 24 (fun w' => ∃ n, w' = wr.drewN n) (by kernel_rfl) (by kernel_rfl) (by kernel_rfl) (by kernel_rfl) (by kernel_rfl) (by kernel_rfl) (.slice (some ⟨q, 0, none⟩) t cq) (fun x hx => by cases hx; rfl) (by rfl) ⟨1, rfl⟩ ?_
          simp only [List.take_succ_cons, List.take_zero]
          refine quiet_segN 23 (by kernel_rfl) (by kernel_rfl) (by rfl) ⟨_, ⟨1, rfl⟩⟩ ?_
          apply Exists.intro
          refine ⟨fun w' hC K hK => ?seg, ?next⟩
          case seg =>
            obtain ⟨n, rfl⟩ := hC
            simp only [List.take_succ_cons, List.take_zero]
            go_wp2
            exact hK _ _ ⟨by rfl, rfl⟩
          case next =>
            simp only [List.drop_succ_cons, List.drop_zero]
            refine quiet_call rfl 57 #[.int .u32 ((xw (xw (xw (wd f (t - 3)) (wd f (t - 8))) (wd f (t - 14))) (wd f (t - 16))).toNat : Int), .int .i64 1] (fun w' => by kernel_rfl) (.int .u32 ((wd f t).toNat : Int)) (fun w' hC => (left10_any _ 1 (by omega) w').mono fun e w2 h => ⟨by rw [wd_high ht1]; exact h.1, by obtain ⟨n, rfl⟩ := hC; exact ⟨n + 1, h.2⟩⟩) ?_
            refine wpQuiet_nil ?_
            rintro w' ⟨n, rfl⟩
            simp only [List.drop_succ_cons, List.drop_zero]
            have hk47 : t ≤ 1000000000000 := by omega
            have HDW := Lib.hid (post_drewN HB.out n)
            have HOW := Lib.hid (own_drewN HO.out n)
            have hs' : w.heap.size ≤ (wr.drewN n).heap.size := HDW.out.size
            go_wp2_with (refine wpList_appendW rfl _ _ _ rfl w.heap.size 64 (by kernel_rfl) (by kernel_rfl) _ t (wd f) rfl (HOW.out.alloc _) (wr.drewN n).heap.size 1 rfl (by exact (Blk.new (wr.drewN n) _ _).cell rfl) hk47 (by simp at hs' ⊢; omega) (HDW.out.alloc hs' _) ?_; intro v2 w2 ho2 hb2)
            apply_assumption
            go_wp2
            go_roundw
            case rel => exact ⟨t + 1, by omega, by omega, by go_num, hb2, ho2⟩
            case measure => simp [intOf]; omega
        · obtain rfl : t = 80 := by omega
          go_wp2
          go_ret
          exact ⟨_, rfl, ho, HB.out⟩
end Go.Proofs.Ytnbjpilanjngmaa.XS
