/- The walks over package cipher, third part. -/
import Derived.Test.YtnbjpilanjngmaaCipher2
namespace Go.Proofs.Ytnbjpilanjngmaa.XS
open Go Go.RowKit
attribute [local go_sem] bits_xr

set_option maxHeartbeats 1000000 in
set_option maxRecDepth 100000 in
theorem mixed_any (w : World) (b : Nat → UInt8) :
    Calls Try.prog 34 #[.agg (bytesV (mk 16 b))] w fun e w' => e = .returned (.agg (bytesV (mk 16 (mxd b)))) ∧ Below w.heap.size w w' := by
  have hz : ∀ w : World, (zeroValue 40).run Try.prog w = .ok (.agg (bytesV (zeros 16))) w := fun w => by kernel_rfl
  go_enter Try.func34, Try.ntmps34
  go_wp2
  go_loopw [4] (fun i wr => ∃ c : Nat, c ≤ 4 ∧ i = .int .i64 (4 * (c : Int)) ∧ Below w.heap.size w wr ∧ Blk wr w.heap.size (bytesV (mk 16 b)) 40 ∧ Blk wr (w.heap.size + 1) (bytesV (zeros 16)) 40 ∧ Blk wr (w.heap.size + 2) (bytesV (mk 16 fun i => if i < 4 * c then mxd b i else 0)) 40) (fun i _ => 16 - (intOf i).toNat)
  case atStart => exact ⟨0, by omega, by go_num, (((Below.refl _ _).alloc (Nat.le_refl _) _).alloc (by simp) _).alloc (by simp; omega) _, ((Blk.new _ _ _).alloc _).alloc _, (Blk.new' (by simp) _ _).alloc _, Blk.new' (by simp) _ _⟩
  case round =>
    obtain ⟨c, hc, rfl, hbel, h1, h2, h3⟩ := hrel
    have HB := Lib.hid hbel; clear hbel
    have H1 := Lib.hid h1; clear h1
    have H2 := Lib.hid h2; clear h2
    have H3 := Lib.hid h3; clear h3
    by_cases hlt : c < 4
    · have hd : decide (4 * (c : Int) < 16) = true := decide_eq_true (by omega)
      have hb : ∀ j, j < 4 → wr.cell? ⟨w.heap.size, 4 * c + j, none⟩ = some (.int .u8 ((b (4 * c + j)).toNat : Int)) := fun j hj => by
        have := H1.out.byte (4 * c + j) (by rw [mk_length]; omega)
        rwa [mk_get (by omega)] at this
      have b0 : wr.cell? ⟨w.heap.size, 4 * c, none⟩ = some (.int .u8 ((b (4 * c)).toNat : Int)) := hb 0 (by omega)
      have b1 := hb 1 (by omega)
      have b2 := hb 2 (by omega)
      have b3 := hb 3 (by omega)
      clear hb
      go_wp2
      refine wp_region_reads (by kernel_rfl) (by kernel_rfl) (by kernel_rfl) (by kernel_rfl) fun K hK => ?_
      go_wp2
      refine hK _ _ ⟨by rfl, ?_⟩
      clear hK K
      go_wp2
      obtain ⟨wo, rfl⟩ : ∃ wo : World, wo = wr := ⟨_, rfl⟩
      go_loopw [31] (fun i wr => ∃ k : Nat, k ≤ 4 ∧ i = .int .i64 k ∧ Below w.heap.size w wr ∧ Blk wr w.heap.size (bytesV (mk 16 b)) 40 ∧ Blk wr (w.heap.size + 1) (bytesV (zeros 16)) 40 ∧ Blk wr (w.heap.size + 2) (bytesV (mk 16 fun i => if i < 4 * c + k then mxd b i else 0)) 40) (fun i _ => 4 - (intOf i).toNat)
      case atStart => exact ⟨0, by omega, rfl, HB.out.drew, H1.out.drew, H2.out.drew, H3.out.drew⟩
      case round =>
        obtain ⟨k, hk, rfl, hbel, h1, h2, h3⟩ := hrel
        clear HB H1 H2 H3 b0 b1 b2 b3
        have HB := Lib.hid hbel; clear hbel
        have H1 := Lib.hid h1; clear h1
        have H2 := Lib.hid h2; clear h2
        have H3 := Lib.hid h3; clear h3
        by_cases hlt2 : k < 4
        · have c1 : wr.cell? ⟨w.heap.size, 4 * c + k, none⟩ = some (.int .u8 ((b (4 * c + k)).toNat : Int)) := by
            have := H1.out.byte (4 * c + k) (by rw [mk_length]; omega)
            rwa [mk_get (by omega)] at this
          have c2 : wr.cell? ⟨w.heap.size, 4 * c + (k + 1) % 4, none⟩ = some (.int .u8 ((b (4 * c + (k + 1) % 4)).toNat : Int)) := by
            have := H1.out.byte (4 * c + (k + 1) % 4) (by rw [mk_length]; omega)
            rwa [mk_get (by omega)] at this
          have c3 := H3.out.byte (4 * c + k) (by rw [mk_length]; omega)
          have f3 := H3.out.free (4 * c + k)
          go_wp2
          refine wp_region_reads (by kernel_rfl) (by kernel_rfl) (by kernel_rfl) (by kernel_rfl) fun K hK => ?_
          go_wp2
          refine hK _ _ ⟨by rfl, ?_⟩
          clear hK K
          go_wp2_with (go_at_call 32; refine (double_any _ _).mono ?_; rintro e w1 ⟨rfl, rfl⟩)
          go_roundw
          case rel =>
            refine ⟨k + 1, by omega, by go_num, HB.out.setCell (by show w.heap.size ≤ w.heap.size + 2; omega) _ |>.drew, (H1.out.set_ne (by omega) _ _ _).drew, (H2.out.set_ne (by omega) _ _ _).drew, ?_⟩
            have := H3.out.setByte (4 * c + k) (mxd b (4 * c + k))
            rw [mk_step] at this
            have e : xr (xr (b (4 * c + k)) (xr (xr (xr (b (4 * c)) (b (4 * c + 1))) (b (4 * c + 2))) (b (4 * c + 3)))) (dbl (xr (b (4 * c + k)) (b (4 * c + (k + 1) % 4)))) = mxd b (4 * c + k) := by
              unfold mxd xr; rw [show (4 * c + k) / 4 * 4 = 4 * c by omega, show (4 * c + k) % 4 = k by omega]
            rw [e]
            exact this.drew
          case measure => simp [intOf]; omega
        · obtain rfl : k = 4 := by omega
          go_wp2
          go_roundw
          case rel => exact ⟨c + 1, by omega, by go_num, HB.out, H1.out, H2.out, H3.out⟩
          case measure => simp [intOf]; omega
    · obtain rfl : c = 4 := by omega
      go_wp2_with (first
        | (refine wpList_loadR rfl _ _ rfl (w.heap.size + 2) _ rfl _ H3.out (by kernel_rfl) 16 (by kernel_rfl) (by rw [bytesV_size, mk_length]) ?_)
        | (refine wpList_storeR rfl _ _ _ rfl (w.heap.size + 1) _ _ rfl rfl _ H2.out 16 (by kernel_rfl) (by rw [bytesV_size, mk_length]) (by rw [bytesV_size, zeros_length]) (bytesV_one _) ?_))
      refine ret_row rfl (w.heap.size + 1) _ _ rfl (H2.out.row _) (by kernel_rfl) 16 (by kernel_rfl) (by rw [bytesV_size, mk_length]) rfl ⟨?_, Below.row HB.out (by omega) _⟩
      rw [mk_congr (g := mxd b) fun i hi => if_pos (by omega)]
end Go.Proofs.Ytnbjpilanjngmaa.XS
