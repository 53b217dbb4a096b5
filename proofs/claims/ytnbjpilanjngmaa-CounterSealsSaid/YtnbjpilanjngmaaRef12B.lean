/- The walks over the reference of layer 12, second part: all boxes, the round keys, blocks. -/
import Derived.Test.YtnbjpilanjngmaaRef12
import Derived.Test.YtnbjpilanjngmaaRef12R
import Derived.Test.YtnbjpilanjngmaaLib2
namespace Go.Proofs.Ytnbjpilanjngmaa.XS
open Go Go.RowKit
attribute [local go_sem] bits_xr

def bxs : List UInt8 := mk 256 fun i => bx (UInt8.ofNat i)
theorem bxs_snoc (k : Nat) : mk (k + 1) (fun i => bx (UInt8.ofNat i)) = mk k (fun i => bx (UInt8.ofNat i)) ++ [bx (UInt8.ofNat k)] := mk_snoc k _
set_option maxHeartbeats 1000000 in
set_option maxRecDepth 100000 in
theorem boxes12_any (w : World) :
    Calls Try.prog 20 #[] w fun e w' => ∃ v, e = .returned v ∧ RdB w' w'.heap.size v bxs ∧ Below w.heap.size w w' := by
  go_enter Try.func20, Try.ntmps20
  go_wp2
  go_loopw [1, 2] (fun vs vi wr => ∃ k : Nat, k ≤ 256 ∧ vi = .int .i64 k ∧ Below w.heap.size w wr ∧ OwnB wr w.heap.size 5 vs (mk k fun i => bx (UInt8.ofNat i))) (fun _ i _ => 256 - (intOf i).toNat)
  case atStart => exact ⟨0, by omega, rfl, Below.refl _ _, OwnB.nil _ _ _⟩
  case round =>
    obtain ⟨k, hk, rfl, hbel, h2⟩ := hrel
    have HB := Lib.hid hbel; clear hbel
    have H2 := Lib.hid h2; clear h2
    by_cases hlt : k < 256
    · have hd : decide ((k : Int) < 256) = true := decide_eq_true (by omega)
      have hT : ∀ w : World, Calls Try.prog 36 #[.int .u8 (k : Int)] w fun e w' => e = .returned (.int .u8 ((bx (UInt8.ofNat k)).toNat : Int)) ∧ w = w' := fun w => by
        rw [show (k : Int) = ((UInt8.ofNat k).toNat : Int) by rw [UInt8.toNat_ofNat']; omega]
        exact box12_any (UInt8.ofNat k) w
      have hnew : ∀ j, j < 1 → (wr.alloc (.cells #[Value.int .u8 ((bx (UInt8.ofNat k)).toNat : Int)] 5)).cell? ⟨wr.heap.size, 0 + j, none⟩ = some (.int .u8 ((([bx (UInt8.ofNat k)] : List UInt8)[j]?.getD 0).toNat : Int)) := fun j hj => by
        obtain rfl : j = 0 := by omega
        exact (Blk.new wr _ 5).cell rfl
      have hfit : (mk k fun i => bx (UInt8.ofNat i)).length + 1 ≤ 140737488355328 := by rw [mk_length]; omega
      have hbase : w.heap.size ≤ (wr.alloc (.cells #[Value.int .u8 ((bx (UInt8.ofNat k)).toNat : Int)] 5)).heap.size := by have := HB.out.size; simp; omega
      go_wp2_with (first
        | (go_at_call 36; refine (hT _).mono ?_; rintro e w1 ⟨rfl, rfl⟩)
        | (refine wpList_appendB rfl _ _ _ rfl w.heap.size 5 (by kernel_rfl) (by kernel_rfl) _ _ rfl (H2.out.alloc _) wr.heap.size 0 1 1 rfl [bx (UInt8.ofNat k)] rfl hnew hfit hbase ?_; intro v' w1 ho1 hg1))
      go_roundw
      case rel =>
        refine ⟨k + 1, by omega, by go_num, ?_, ?_⟩
        · exact grown_below hg1 (HB.out.alloc HB.out.size _) (by have := HB.out.size; simp; omega) fun q hq => (H2.out.block q hq).1
        · rw [bxs_snoc]; exact ho1
      case measure => simp [intOf]; omega
    · obtain rfl : k = 256 := by omega
      go_wp2
      go_ret
      exact ⟨_, rfl, H2.out.rd, HB.out⟩
theorem times12_int (n : Int) (x : UInt8) (h : 0 ≤ n ∧ n < 256) (w : World) : Calls Try.prog 37 #[.int .u8 n, .int .u8 (x.toNat : Int)] w fun e w' => e = .returned (.int .u8 ((tms (UInt8.ofNat n.toNat) x).toNat : Int)) ∧ w = w' := by
  have hc := times12_any (UInt8.ofNat n.toNat) x w
  have e : ((UInt8.ofNat n.toNat).toNat : Int) = n := by rw [UInt8.toNat_ofNat']; omega
  rw [e] at hc
  exact hc
set_option maxHeartbeats 1000000 in
set_option maxRecDepth 100000 in
theorem mixed12_any (w : World) (m : Nat → UInt8) :
    Calls Try.prog 38 #[.agg (bytesV (mk 16 m))] w fun e w' => e = .returned (.agg (bytesV (mk 16 (mxd m)))) ∧ Below w.heap.size w w' := by
  have hz : ∀ w : World, (zeroValue 40).run Try.prog w = .ok (.agg (bytesV (zeros 16))) w := fun w => by kernel_rfl
  go_enter Try.func38, Try.ntmps38
  go_wp2
  go_loopw [4] (fun i wr => ∃ c : Nat, c ≤ 4 ∧ i = .int .i64 (4 * (c : Int)) ∧ Below w.heap.size w wr ∧ Blk wr w.heap.size (bytesV (mk 16 m)) 40 ∧ Blk wr (w.heap.size + 1) (bytesV (zeros 16)) 40 ∧ Blk wr (w.heap.size + 2) (bytesV (mk 16 fun i => if i < 4 * c then mxd m i else 0)) 40) (fun i _ => 16 - (intOf i).toNat)
  case atStart => exact ⟨0, by omega, by go_num, (((Below.refl _ _).alloc (Nat.le_refl _) _).alloc (by simp) _).alloc (by simp; omega) _, ((Blk.new _ _ _).alloc _).alloc _, (Blk.new' (by simp) _ _).alloc _, Blk.new' (by simp) _ _⟩
  case round =>
    obtain ⟨c, hc, rfl, hbel, h1, h2, h3⟩ := hrel
    have HB := Lib.hid hbel; clear hbel
    have H1 := Lib.hid h1; clear h1
    have H2 := Lib.hid h2; clear h2
    have H3 := Lib.hid h3; clear h3
    by_cases hlt : c < 4
    · have hd : decide (4 * (c : Int) < 16) = true := decide_eq_true (by omega)
      have hb : ∀ j, j < 4 → wr.cell? ⟨w.heap.size, 4 * c + j, none⟩ = some (.int .u8 ((m (4 * c + j)).toNat : Int)) := fun j hj => by
        have := H1.out.byte (4 * c + j) (by rw [mk_length]; omega)
        rwa [mk_get (by omega)] at this
      have b0 : wr.cell? ⟨w.heap.size, 4 * c, none⟩ = some (.int .u8 ((m (4 * c)).toNat : Int)) := hb 0 (by omega)
      have b1 := hb 1 (by omega)
      have b2 := hb 2 (by omega)
      have b3 := hb 3 (by omega)
      have hz3 : ∀ j, j < 4 → wr.cell? ⟨w.heap.size + 2, 4 * c + j, none⟩ = some (.int .u8 (((0 : UInt8)).toNat : Int)) := fun j hj => by
        have := H3.out.byte (4 * c + j) (by rw [mk_length]; omega)
        rwa [mk_get (by omega), if_neg (by omega)] at this
      have z0 : wr.cell? ⟨w.heap.size + 2, 4 * c, none⟩ = _ := hz3 0 (by omega)
      have z1 := hz3 1 (by omega)
      have z2 := hz3 2 (by omega)
      have z3 := hz3 3 (by omega)
      have f0 := H3.out.free (4 * c)
      have f1 := H3.out.free (4 * c + 1)
      have f2 := H3.out.free (4 * c + 2)
      have f3 := H3.out.free (4 * c + 3)
      clear hb hz3
      go_wp2_with (go_at_call 37; refine (times12_int _ _ (by decide) _).mono ?_; rintro e w1 ⟨rfl, rfl⟩)
      go_roundw
      case rel =>
        obtain ⟨e0, e1, e2, e3⟩ := mxR m c
        rw [e0, e1, e2, e3]
        refine ⟨c + 1, by omega, by go_num, (((HB.out.setCell (by show w.heap.size ≤ w.heap.size + 1 + 1; omega) _).setCell (by show w.heap.size ≤ w.heap.size + 1 + 1; omega) _).setCell (by show w.heap.size ≤ w.heap.size + 1 + 1; omega) _).setCell (by show w.heap.size ≤ w.heap.size + 1 + 1; omega) _,
          (((H1.out.set_ne (by omega) _ _ _).set_ne (by omega) _ _ _).set_ne (by omega) _ _ _).set_ne (by omega) _ _ _, (((H2.out.set_ne (by omega) _ _ _).set_ne (by omega) _ _ _).set_ne (by omega) _ _ _).set_ne (by omega) _ _ _, ?_⟩
        have h := (((H3.out.setByte (4 * c) (mxd m (4 * c))).setByte (4 * c + 1) (mxd m (4 * c + 1))).setByte (4 * c + 2) (mxd m (4 * c + 2))).setByte (4 * c + 3) (mxd m (4 * c + 3))
        rw [mk_set4 (mxd m) _ _ _ _ rfl rfl rfl rfl] at h
        exact h
      case measure => simp [intOf]; omega
    · obtain rfl : c = 4 := by omega
      go_wp2_with (first
        | (refine wpList_loadR rfl _ _ rfl (w.heap.size + 2) _ rfl _ H3.out (by kernel_rfl) 16 (by kernel_rfl) (by rw [bytesV_size, mk_length]) ?_)
        | (refine wpList_storeR rfl _ _ _ rfl (w.heap.size + 1) _ _ rfl rfl _ H2.out 16 (by kernel_rfl) (by rw [bytesV_size, mk_length]) (by rw [bytesV_size, zeros_length]) (bytesV_one _) ?_))
      refine ret_row rfl (w.heap.size + 1) _ _ rfl (H2.out.row _) (by kernel_rfl) 16 (by kernel_rfl) (by rw [bytesV_size, mk_length]) rfl ⟨?_, Below.row HB.out (by omega) _⟩
      rw [mk_congr (g := mxd m) fun i hi => if_pos (by omega)]
end Go.Proofs.Ytnbjpilanjngmaa.XS
