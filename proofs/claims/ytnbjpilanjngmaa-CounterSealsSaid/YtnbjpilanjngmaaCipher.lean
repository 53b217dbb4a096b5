/- The walks over package cipher: what each function does, each once. -/
import Derived.Test.YtnbjpilanjngmaaRows
import Derived.Test.YtnbjpilanjngmaaAes
namespace Go.Proofs.Ytnbjpilanjngmaa.XS
open Go Go.RowKit

set_option maxHeartbeats 400000 in
theorem double_any (a : UInt8) (w : World) :
    Calls Try.prog 32 #[.int .u8 (a.toNat : Int)] w fun e w' => e = .returned (.int .u8 ((dbl a).toNat : Int)) ∧ w = w' := by
  have ha := a.toNat_lt
  by_cases h : 128 ≤ (a.toNat : Int)
  · have H := Lib.hid (dbl_hi a h)
    go_enter Try.func32, Try.ntmps32
    go_wp2
    go_ret
    exact ⟨by rw [← H.out]; rfl, rfl⟩
  · have H := Lib.hid (dbl_lo a h)
    go_enter Try.func32, Try.ntmps32
    go_wp2
    go_ret
    exact ⟨by rw [← H.out]; rfl, rfl⟩

set_option maxHeartbeats 400000 in
set_option maxRecDepth 100000 in
theorem box_any (w : World) :
    Calls Try.prog 45 #[] w fun e w' => e = .returned (.agg boxV) ∧ Below w.heap.size w w' := by
  rw [boxV_eq]
  have hz : ∀ w : World, (zeroValue 75).run Try.prog w = .ok (.agg (bytesV (zeros 256))) w := fun w => by kernel_rfl
  go_enter Try.func45, Try.ntmps45
  go_wp2_with (first
    | (refine wpList_buildC rfl _ _ rfl (bytesV boxT) (by kernel_rfl) ?_)
    | (refine wpList_storeR rfl _ _ _ rfl w.heap.size (bytesV boxT) _ rfl rfl 75 (Blk.new _ _ _) 256 (by kernel_rfl) (by rw [bytesV_size, boxT_length]) (by rw [bytesV_size, zeros_length]) (bytesV_one _) ?_))
  exact ret_row rfl w.heap.size (bytesV boxT) 75 rfl ((Blk.new _ _ _).row _) (by kernel_rfl) 256 (by kernel_rfl) (by rw [bytesV_size, boxT_length]) rfl
    ⟨rfl, Below.row ((Below.refl _ _).alloc (Nat.le_refl _) _) (Nat.le_refl _) _⟩


end Go.Proofs.Ytnbjpilanjngmaa.XS
