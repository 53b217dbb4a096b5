/- The walks over the laws of layer 12: the living block. -/
import Derived.Test.YtkdebhdfbpbcoaaCipher6
import Derived.Test.YtkdebhdfbpbcoaaAlive
namespace Go.Proofs.Ytkdebhdfbpbcoaa.XS
open Go Go.RowKit
attribute [local go_sem] bits_xr

set_option maxHeartbeats 2000000 in
set_option maxRecDepth 100000 in
theorem alive12_any (w : World) :
    Calls Try.prog 9 #[] w fun e w' => e = .returned (.bool true) ∧ Below w.heap.size w w' := by
  have hz : ∀ w : World, (zeroValue 27).run Try.prog w = .ok (.agg (bytesV (zeros 16))) w := fun w => by kernel_rfl
  go_enter Try.func9, Try.ntmps9
  go_wp2
  go_loopw [1, 7] (fun vs vi wr => ∃ k : Nat, k ≤ 16 ∧ vi = .int .i64 k ∧ Below w.heap.size w wr ∧ Blk wr w.heap.size (bytesV (mk 16 fun i => if i < k then blk0 i else 0)) 27 ∧ OwnB wr (w.heap.size + 1) 5 vs ((List.range k).map UInt8.ofNat)) (fun _ i _ => 16 - (intOf i).toNat)
  case atStart => exact ⟨0, by omega, rfl, (Below.refl _ _).alloc (Nat.le_refl _) _, Blk.new _ _ _, OwnB.nil _ _ _⟩
  case round =>
    obtain ⟨k, hk, rfl, hbel, h1, h2⟩ := hrel
    have HB := Lib.hid hbel; clear hbel
    have H1 := Lib.hid h1; clear h1
    have H2 := Lib.hid h2; clear h2
    have hsz := H1.out.lt
    by_cases hlt : k < 16
    · have hk1 : ((UInt8.ofNat k).toNat : Int) = k := by rw [UInt8.toNat_ofNat']; omega
      have hk2 : ((UInt8.ofNat (17 * k)).toNat : Int) = 17 * k := by rw [UInt8.toNat_ofNat']; omega
      have HK1 := Lib.hid hk1; clear hk1
      have HK2 := Lib.hid hk2; clear hk2
      have hd : decide ((k : Int) < 16) = true := decide_eq_true (by omega)
      go_upto_region 7 with (
        refine wpList_appendB rfl _ _ _ rfl (w.heap.size + 1) 5 (by kernel_rfl) (by kernel_rfl) _ _ rfl (H2.out.alloc _) wr.heap.size 0 1 1 rfl [UInt8.ofNat k] rfl
          (fun j hj => by
            obtain rfl : j = 0 := by omega
            refine (Blk.new wr _ 5).cell ?_
            show _ = some (Value.int .u8 ((UInt8.ofNat k).toNat : Int)); rw [HK1.out]; rfl) (by simp; omega) (by simp; omega) ?_; intro v' w1 ho1 hg1)
      have hne : u1.ownBlock ≠ some w.heap.size := fun e => by have := (H2.out.block _ e).1; omega
      have HB1 := Lib.hid (grown_below hg1 (HB.out.alloc (by omega) _) (by simp; omega) fun q hq => by have := (H2.out.block q hq).1; omega)
      have h1' := grown_blk hg1 (H1.out.alloc _) hne
      have c1 := h1'.byte k (by rw [mk_length]; exact hlt)
      have f1 := h1'.free k
      have HO := Lib.hid ho1; clear ho1
      have H1' := Lib.hid h1'; clear h1'
      clear hg1 hne
      go_wp2
      go_roundw
      case rel =>
        refine ⟨k + 1, by omega, by go_num, HB1.out.setCell (Nat.le_refl _) _, ?_, ?_⟩
        · have h := H1'.out.setByte k (blk0 k)
          rw [mk_step] at h
          unfold blk0 at h
          rw [HK2.out] at h
          exact h
        · rw [List.range_succ, List.map_append]
          exact HO.out.only (Only.setCell _ w.heap.size k none _) (by omega)
      case measure => simp [intOf]; omega
    · obtain rfl : k = 16 := by omega
      have HR := Lib.hid H2.out.rd
      have hb16 : (mk 16 fun i => if i < 16 then blk0 i else 0) = mk 16 blk0 := mk_congr fun i hi => if_pos hi
      rw [hb16] at H1
      clear hb16
      go_wp2_with fail
      refine (new_ok _ _ _ 4 HR.out rfl (.inl rfl)).mono ?_
      rintro e w1 ⟨kb, hkb, rfl, hkey, hb1⟩
      have he := enc0' (fun i => (((List.range 16).map UInt8.ofNat)[i]?.getD (0 : UInt8))) fun i hi => by simp [key0, hi]
      have HE := Lib.hid he; clear he
      generalize (fun i : Nat => (((List.range 16).map UInt8.ofNat)[i]?.getD (0 : UInt8))) = ky at *
      have HKEY := Lib.hid hkey; clear hkey
      have H1' := Lib.hid (H1.out.below hb1 hsz)
      have HB1 := Lib.hid (HB.out.trans (hb1.mono (by omega)))
      have hs1 := hb1.size
      clear hb1
      go_wp2_with (refine wpList_loadR rfl _ _ rfl w.heap.size _ rfl _ H1'.out (by kernel_rfl) 16 (by kernel_rfl) (by rw [bytesV_size, mk_length]) ?_)
      refine (block_any _ kb (keyZ 4 ky) blk0 10 (by omega) (by omega) HKEY.out).mono ?_
      rintro e w2 ⟨rfl, hb2⟩
      have HB2 := Lib.hid (HB1.out.trans (hb2.mono (by omega)))
      have hs2 := hb2.size
      clear hb2
      go_upto_region 13 with (refine wpList_storeO rfl _ _ _ rfl w2.heap.size _ _ rfl rfl _ (Blk.new _ _ _) 16 (by kernel_rfl) (by rw [bytesV_size, mk_length]) (by rw [bytesV_size, zeros_length]) (bytesV_one _) ?_; intro w3 ho3 hb3)
      have HB3 := Lib.hid (ho3.below (HB2.out.alloc (by omega) _) (by omega))
      have hs3 : w2.heap.size + 1 ≤ w3.heap.size := by rw [ho3.size]; simp
      clear ho3
      have c0 := hb3.byte 0 (by rw [mk_length]; omega)
      have c15 := hb3.byte 15 (by rw [mk_length]; omega)
      rw [mk_get (by omega), HE.out.1] at c0
      rw [mk_get (by omega), HE.out.2] at c15
      clear hb3
      go_wp2_with (first
        | (go_at_call 10; refine (times_any 0x57 0x83 _).mono ?_; rintro e w4 ⟨rfl, rfl⟩)
        | (go_at_call 12; refine (box1_any 0x53 _).mono ?_; rintro e w5 ⟨rfl, hb5⟩))
      go_ret
      refine ⟨?_, HB3.out.trans (hb5.mono (by omega))⟩
      show Ending.returned (.bool (((bx 83).toNat : Int) == 237)) = _
      rw [show bx 83 = 237 from bx0]; rfl
end Go.Proofs.Ytkdebhdfbpbcoaa.XS
