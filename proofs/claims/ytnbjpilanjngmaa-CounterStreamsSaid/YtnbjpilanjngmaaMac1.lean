/- The walks over package mac, first part: a key as a block, its two hashes. -/
import Derived.Test.YtnbjpilanjngmaaDig4
import Derived.Test.YtnbjpilanjngmaaMacP
namespace Go.Proofs.Ytnbjpilanjngmaa.XS
open Go Go.RowKit
attribute [local go_sem] bits_xr

theorem hk_length (key : List UInt8) : (hk key).length ≤ 64 := by
  unfold hk
  split
  · rw [mk_length]; omega
  · omega
theorem pad_cur (k : List UInt8) (hk : k.length ≤ 64) : ∀ p : Nat, (bytesV (mk 64 (byteAt k)))[p]? = if 0 ≤ p ∧ p < 0 + k.length then some (.int .u8 ((byteAt k (p - 0)).toNat : Int)) else (bytesV (zeros 64))[p]? := fun p => by
  by_cases hp : p < 64
  · rw [bytesV_get _ _ (by rw [mk_length]; exact hp), mk_get hp]
    by_cases h : p < k.length
    · rw [if_pos (by omega)]; rfl
    · rw [if_neg (by omega), bytesV_get _ _ (by rw [zeros_length]; exact hp)]
      unfold byteAt zeros
      rw [List.getElem?_eq_none (by omega), List.getElem?_replicate, if_pos hp]; rfl
  · rw [Array.getElem?_eq_none (by rw [bytesV_size, mk_length]; omega), if_neg (by omega), Array.getElem?_eq_none (by rw [bytesV_size, zeros_length]; omega)]
set_option maxHeartbeats 1000000 in
set_option maxRecDepth 100000 in
theorem padded_any (key : List UInt8) (v : Value) (B : Nat) (w : World) (hB : B ≤ w.heap.size) (hv : RdB w B v key) (hlen : key.length ≤ 140737488360000) :
    Calls Try.prog 47 #[v] w fun e w' => e = .returned (.agg (bytesV (mk 64 (byteAt (hk key))))) ∧ Below w.heap.size w w' := by
  have HV := Lib.hid hv; clear hv
  have hz : ∀ w : World, (zeroValue 66).run Try.prog w = .ok (.agg (bytesV (zeros 64))) w := fun w => by kernel_rfl
  have hz20 : ∀ w : World, (zeroValue 50).run Try.prog w = .ok (.agg (bytesV (zeros 20))) w := fun w => by kernel_rfl
  obtain ⟨base, cap, hve, hc1, hc2, hn, h3⟩ := HV.out
  subst hve
  have HB := Lib.hid (((Below.refl w.heap.size w).alloc (Nat.le_refl _) (Obj.cells (bytesV (zeros 64)) 66)).alloc (by simp) (Obj.cells (bytesV (zeros 64)) 66))
  have HR := Lib.hid ((Blk.new w (bytesV (zeros 64)) 66).alloc (Obj.cells (bytesV (zeros 64)) 66))
  have HK := Lib.hid (Blk.new' (w := w.alloc (Obj.cells (bytesV (zeros 64)) 66)) (b := w.heap.size + 1) (by simp) (bytesV (zeros 64)) 66)
  have HV2 := Lib.hid (HV.out.below HB.out hB)
  have hs2 : ((w.alloc (Obj.cells (bytesV (zeros 64)) 66)).alloc (Obj.cells (bytesV (zeros 64)) 66)).heap.size = w.heap.size + 2 := by simp
  by_cases hbig : 64 < key.length
  · have hhk : hk key = mk 20 (sha key) := by unfold hk; rw [if_pos hbig]
    have HHK := Lib.hid hhk; clear hhk
    have hd : decide (64 < (key.length : Int)) = true := decide_eq_true (by omega)
    go_enter Try.func47, Try.ntmps47
    go_wp2_with fail
    refine (dsum_any key _ B _ (by omega) HV2.out hlen).mono ?_
    rintro e w1 ⟨rfl, hb1⟩
    have HB1 := Lib.hid (HB.out.trans (hb1.mono HB.out.size))
    have HR1 := Lib.hid (HR.out.below hb1 HR.out.lt)
    have HK1 := Lib.hid (HK.out.below hb1 HK.out.lt)
    have hs1 := hb1.size
    rw [hs2] at hs1
    clear hb1
    go_upto_region 5 with (refine wpList_storeO rfl _ _ _ rfl w1.heap.size _ _ rfl rfl _ (Blk.new _ _ _) 20 (by kernel_rfl) (by rw [bytesV_size, mk_length]) (by rw [bytesV_size, zeros_length]) (bytesV_one _) ?_; intro w3 ho3 hb3)
    have HB3 := Lib.hid (ho3.below (HB1.out.alloc HB1.out.size (Obj.cells (bytesV (zeros 20)) 50)) HB1.out.size)
    have HR3 := Lib.hid (ho3.blk (HR1.out.alloc _) (by omega))
    have HK3 := Lib.hid (ho3.blk (HK1.out.alloc _) (by omega))
    have hrx := RdX.ofBlk hb3 (g := w.heap.size + 1) (by omega) (by rw [mk_length]; omega)
    rw [mk_length] at hrx
    have HX := Lib.hid hrx
    clear ho3 hb3 hrx
    have hcur := pad_cur (mk 20 (sha key)) (by rw [mk_length]; omega)
    rw [mk_length] at hcur
    have HCUR := Lib.hid hcur; clear hcur
    try simp only [Act.put]
    go_upto_region 6 with (refine wpList_copyX rfl _ _ 22 22 rfl 5 (by kernel_rfl) (by kernel_rfl) (w.heap.size + 1) 0 64 64 rfl _ (mk 20 (sha key)) rfl HX.out _ 66 HK3.out 20 (by rw [mk_length]; rfl) (by rw [bytesV_size, zeros_length]; omega) _ HCUR.out ?_; intro w4 ho4 hb4)
    have HB4 := Lib.hid (ho4.below HB3.out (by omega))
    have HR4 := Lib.hid (ho4.blk HR3.out (by omega))
    have HK4 := Lib.hid hb4
    clear ho4 hb4
    go_wp2_with (first
      | (refine wpList_loadR rfl _ _ rfl (w.heap.size + 1) _ rfl _ HK4.out (by kernel_rfl) 64 (by kernel_rfl) (by rw [bytesV_size, mk_length]) ?_)
      | (refine wpList_storeR rfl _ _ _ rfl w.heap.size _ _ rfl rfl _ HR4.out 64 (by kernel_rfl) (by rw [bytesV_size, mk_length]) (by rw [bytesV_size, zeros_length]) (bytesV_one _) ?_))
    refine ret_row rfl w.heap.size _ _ rfl (HR4.out.row _) (by kernel_rfl) 64 (by kernel_rfl) (by rw [bytesV_size, mk_length]) rfl ⟨?_, Below.row HB4.out (Nat.le_refl _) _⟩
    rw [HHK.out]
  · have hhk : hk key = key := by unfold hk; rw [if_neg hbig]
    have HHK := Lib.hid hhk; clear hhk
    have hd : decide (64 < (key.length : Int)) = false := decide_eq_false (by omega)
    have HX := Lib.hid (HV2.out.toX (g := w.heap.size + 1) (by omega) (by omega))
    have HCUR := Lib.hid (pad_cur key (by omega))
    have hmin : key.length = Nat.min key.length 64 := (Nat.min_eq_left (by omega)).symm
    have HMIN := Lib.hid hmin; clear hmin
    go_enter Try.func47, Try.ntmps47
    go_upto_region 6 with (refine wpList_copyX rfl _ _ 22 22 rfl 5 (by kernel_rfl) (by kernel_rfl) (w.heap.size + 1) 0 64 64 rfl _ key rfl HX.out _ 66 HK.out key.length HMIN.out (by rw [bytesV_size, zeros_length]; omega) _ HCUR.out ?_; intro w4 ho4 hb4)
    have HB4 := Lib.hid (ho4.below HB.out (by omega))
    have HR4 := Lib.hid (ho4.blk HR.out (by omega))
    have HK4 := Lib.hid hb4
    clear ho4 hb4
    go_wp2_with (first
      | (refine wpList_loadR rfl _ _ rfl (w.heap.size + 1) _ rfl _ HK4.out (by kernel_rfl) 64 (by kernel_rfl) (by rw [bytesV_size, mk_length]) ?_)
      | (refine wpList_storeR rfl _ _ _ rfl w.heap.size _ _ rfl rfl _ HR4.out 64 (by kernel_rfl) (by rw [bytesV_size, mk_length]) (by rw [bytesV_size, zeros_length]) (bytesV_one _) ?_))
    refine ret_row rfl w.heap.size _ _ rfl (HR4.out.row _) (by kernel_rfl) 64 (by kernel_rfl) (by rw [bytesV_size, mk_length]) rfl ⟨?_, Below.row HB4.out (Nat.le_refl _) _⟩
    rw [HHK.out]
theorem rep_one {m : List UInt8} {cs : Array Value} (hrep : RepH m cs) : cs.all (·.oneCell') = true := by
  obtain ⟨wt, _, rfl⟩ := hrep
  rw [Array.all_eq_true]
  intro i hi
  have h := hV_get (st m) wt (m.length % 64) m.length i
  rw [Array.getElem?_eq_getElem hi] at h
  split at h
  · rw [Option.some.inj h]; rfl
  · split at h
    · rw [Option.some.inj h]; rfl
    · split at h
      · rw [Option.some.inj h]; rfl
      · split at h
        · rw [Option.some.inj h]; rfl
        · cases h
set_option maxHeartbeats 1000000 in
set_option maxRecDepth 100000 in
theorem begun_any (key : List UInt8) (x : UInt8) (kb : Nat) (w : World) (hk : Blk w kb (bytesV (mk 64 (byteAt (hk key)))) 66) :
    Calls Try.prog 48 #[.int .u8 (x.toNat : Int), .pointer (some ⟨kb, 0, none⟩)] w fun e w' => ∃ c, e = .returned (.agg c) ∧ RepH (hkx key x) c ∧ Below w.heap.size w w' := by
  have hz : ∀ w : World, (zeroValue 66).run Try.prog w = .ok (.agg (bytesV (zeros 64))) w := fun w => by kernel_rfl
  have hzh : ∀ w : World, (zeroValue 68).run Try.prog w = .ok (.agg (hV ⟨0, 0, 0, 0, 0⟩ (fun _ => 0) 0 0)) w := fun w => by kernel_rfl
  have hlt := hk.lt
  have HK := Lib.hid (hk.alloc (Obj.cells (hV ⟨0, 0, 0, 0, 0⟩ (fun _ => 0) 0 0) 68))
  have HK2 := Lib.hid (HK.out.alloc (Obj.cells (bytesV (zeros 64)) 66)); clear hk
  go_enter Try.func48, Try.ntmps48
  go_upto_region 2 with (first
    | (refine wpList_loadR rfl _ _ rfl kb _ rfl _ HK2.out (by kernel_rfl) 64 (by kernel_rfl) (by rw [bytesV_size, mk_length]) ?_)
    | (refine wpList_loadR rfl _ _ rfl kb _ rfl _ HK.out (by kernel_rfl) 64 (by kernel_rfl) (by rw [bytesV_size, mk_length]) ?_)
    | (refine wpList_storeO rfl _ _ _ rfl (w.heap.size + 1) _ _ rfl rfl _ (Blk.new' (by simp) _ _) 64 (by kernel_rfl) (by rw [bytesV_size, mk_length]) (by rw [bytesV_size, zeros_length]) (bytesV_one _) ?_; intro w2 ho2 hb2))
  have HB2 := Lib.hid (ho2.below (((Below.refl w.heap.size w).alloc (Nat.le_refl _) (Obj.cells (hV ⟨0, 0, 0, 0, 0⟩ (fun _ => 0) 0 0) 68)).alloc (by simp) (Obj.cells (bytesV (zeros 64)) 66)) (by omega))
  have HR2 := Lib.hid (ho2.blk ((Blk.new w (hV ⟨0, 0, 0, 0, 0⟩ (fun _ => 0) 0 0) 68).alloc _) (by omega))
  have HX2 := Lib.hid hb2; clear ho2 hb2
  try simp only [Act.put]
  go_wp2
  go_loopw [8] (fun vk wr => ∃ k : Nat, k ≤ 64 ∧ vk = .int .i64 k ∧ Below w.heap.size w wr ∧ Blk wr w.heap.size (hV ⟨0, 0, 0, 0, 0⟩ (fun _ => 0) 0 0) 68 ∧ Blk wr (w.heap.size + 1) (bytesV (mk 64 fun i => if i < k then xr (byteAt (XS.hk key) i) x else byteAt (XS.hk key) i)) 66) (fun k _ => 64 - (intOf k).toNat)
  case atStart => exact ⟨0, by omega, rfl, HB2.out, HR2.out, by rw [mk_congr (g := byteAt (XS.hk key)) fun i _ => if_neg (by omega)]; exact HX2.out⟩
  case round =>
    clear HB2 HR2 HX2
    obtain ⟨k, hk, rfl, hb, hr, hx⟩ := hrel
    have HB := Lib.hid hb; clear hb
    have HR := Lib.hid hr; clear hr
    by_cases hk64 : k < 64
    · have c1 := hx.byte k (by rw [mk_length]; omega)
      rw [mk_get hk64, if_neg (Nat.lt_irrefl k)] at c1
      have f1 := hx.free k
      have HX := Lib.hid hx; clear hx
      go_wp2
      go_roundw
      case rel =>
        refine ⟨k + 1, by omega, by go_num, HB.out.setCell (by show w.heap.size ≤ w.heap.size + 1; omega) _, HR.out.set_ne (by omega) _ _ _, ?_⟩
        have h := HX.out.setByte k (xr (byteAt (XS.hk key) k) x)
        rw [mk_step (fun i => xr (byteAt (XS.hk key) i) x)] at h
        exact h
      case measure => simp [intOf]; omega
    · have HK64 := Lib.hid (by omega : k = 64)
      rw [mk_congr (g := fun i => xr (byteAt (XS.hk key) i) x) fun i hi => if_pos (by omega)] at hx
      have HX := Lib.hid hx; clear hx
      have hltr := HX.out.lt
      go_wp2_with fail
      refine (dnew_any _).mono ?_
      rintro e w3 ⟨rfl, hb3, hbel3⟩
      have HB3 := Lib.hid (HB.out.trans (hbel3.mono HB.out.size))
      have HR3 := Lib.hid (HR.out.below hbel3 HR.out.lt)
      have hrx := RdX.ofBlk (HX.out.below hbel3 HX.out.lt) (g := wr.heap.size) (by omega) (by rw [mk_length]; omega)
      rw [mk_length] at hrx
      have HRX := Lib.hid hrx
      have HH3 := Lib.hid hb3
      clear hb3 hbel3 hrx
      have hl64 : (hkx key x).length = 64 := mk_length _ _
      go_wp2_with fail
      refine (dwrite_any wr.heap.size [] (hkx key x) _ _ _ HH3.out RepH.new HRX.out (by rw [hl64]; simp)).mono ?_
      rintro e w4 ⟨rfl, ⟨cs, hc, hrep⟩, hg⟩
      rw [List.nil_append] at hrep
      have HB4 := Lib.hid (G.toBelow hg HB3.out HB3.out.size (by omega))
      have HR4 := Lib.hid (grown_blk hg HR3.out (fun e => by have := Option.some.inj e; omega))
      have HC4 := Lib.hid hc
      have hsz := hrep.size
      have h1c := rep_one hrep
      have HREP := Lib.hid hrep
      clear hc hrep hg
      go_wp2_with (first
        | (refine wpList_loadR rfl _ _ rfl wr.heap.size _ rfl _ HC4.out (by kernel_rfl) 71 (by kernel_rfl) hsz ?_)
        | (refine wpList_storeR rfl _ _ _ rfl w.heap.size _ _ rfl rfl _ HR4.out 71 (by kernel_rfl) hsz (by rw [hV_size]) h1c ?_))
      exact ret_row rfl w.heap.size _ _ rfl (HR4.out.row _) (by kernel_rfl) 71 (by kernel_rfl) hsz rfl ⟨_, rfl, HREP.out, Below.row HB4.out (Nat.le_refl _) _⟩
set_option maxHeartbeats 1000000 in
set_option maxRecDepth 100000 in
theorem halves_any (key : List UInt8) (v : Value) (B : Nat) (w : World) (hB : B ≤ w.heap.size) (hv : RdB w B v key) (hlen : key.length ≤ 140737488360000) :
    Calls Try.prog 40 #[v] w fun e w' => ∃ c1 c2, e = .returned (.tuple #[.agg c1, .agg c2]) ∧ RepH (hkx key 0x36) c1 ∧ RepH (hkx key 0x5c) c2 ∧ Below w.heap.size w w' := by
  have HV := Lib.hid hv; clear hv
  have hz : ∀ w : World, (zeroValue 66).run Try.prog w = .ok (.agg (bytesV (zeros 64))) w := fun w => by kernel_rfl
  have hzh : ∀ w : World, (zeroValue 68).run Try.prog w = .ok (.agg (hV ⟨0, 0, 0, 0, 0⟩ (fun _ => 0) 0 0)) w := fun w => by kernel_rfl
  have HB0 := Lib.hid (((Below.refl w.heap.size w).alloc (Nat.le_refl _) (Obj.cells (hV ⟨0, 0, 0, 0, 0⟩ (fun _ => 0) 0 0) 68)).alloc (by simp) (Obj.cells (hV ⟨0, 0, 0, 0, 0⟩ (fun _ => 0) 0 0) 68))
  have H1 := Lib.hid ((Blk.new w (hV ⟨0, 0, 0, 0, 0⟩ (fun _ => 0) 0 0) 68).alloc (Obj.cells (hV ⟨0, 0, 0, 0, 0⟩ (fun _ => 0) 0 0) 68))
  have H2 := Lib.hid (Blk.new' (w := w.alloc (Obj.cells (hV ⟨0, 0, 0, 0, 0⟩ (fun _ => 0) 0 0) 68)) (b := w.heap.size + 1) (by simp) (hV ⟨0, 0, 0, 0, 0⟩ (fun _ => 0) 0 0) 68)
  have hs2 : ((w.alloc (Obj.cells (hV ⟨0, 0, 0, 0, 0⟩ (fun _ => 0) 0 0) 68)).alloc (Obj.cells (hV ⟨0, 0, 0, 0, 0⟩ (fun _ => 0) 0 0) 68)).heap.size = w.heap.size + 2 := by simp
  have HV2 := Lib.hid (HV.out.below HB0.out hB)
  go_enter Try.func40, Try.ntmps40
  go_wp2_with fail
  refine (padded_any key v B _ (by omega) HV2.out hlen).mono ?_
  rintro e w1 ⟨rfl, hb1⟩
  have HB1 := Lib.hid (HB0.out.trans (hb1.mono HB0.out.size))
  have H11 := Lib.hid (H1.out.below hb1 H1.out.lt)
  have H21 := Lib.hid (H2.out.below hb1 H2.out.lt)
  have hs1 := hb1.size
  rw [hs2] at hs1
  clear hb1
  go_upto_region 2 with (refine wpList_storeO rfl _ _ _ rfl w1.heap.size _ _ rfl rfl _ (Blk.new _ _ _) 64 (by kernel_rfl) (by rw [bytesV_size, mk_length]) (by rw [bytesV_size, zeros_length]) (bytesV_one _) ?_; intro w2 ho2 hb2)
  have HB2 := Lib.hid (ho2.below (HB1.out.alloc HB1.out.size (Obj.cells (bytesV (zeros 64)) 66)) HB1.out.size)
  have H12 := Lib.hid (ho2.blk (H11.out.alloc _) (by omega))
  have H22 := Lib.hid (ho2.blk (H21.out.alloc _) (by omega))
  have HK := Lib.hid hb2
  have hlt2 : w1.heap.size < w2.heap.size := hb2.lt
  clear ho2 hb2
  go_wp2_with fail
  refine (begun_any key 0x36 _ _ HK.out).mono ?_
  rintro e w3 ⟨c1, rfl, hr1, hb3⟩
  have HB3 := Lib.hid (HB2.out.trans (hb3.mono HB2.out.size))
  have H13 := Lib.hid (H12.out.below hb3 H12.out.lt)
  have H23 := Lib.hid (H22.out.below hb3 H22.out.lt)
  have HK3 := Lib.hid (HK.out.below hb3 HK.out.lt)
  have hs3 := hb3.size
  clear hb3
  have hsz1 := hr1.size
  have h1c1 := rep_one hr1
  have HR1 := Lib.hid hr1; clear hr1
  go_wp2_with fail
  refine (begun_any key 0x5c _ _ HK3.out).mono ?_
  rintro e w4 ⟨c2, rfl, hr2, hb4⟩
  have HB4 := Lib.hid (HB3.out.trans (hb4.mono HB3.out.size))
  have H14 := Lib.hid (H13.out.below hb4 H13.out.lt)
  have H24 := Lib.hid (H23.out.below hb4 H23.out.lt)
  clear hb4
  have hsz2 := hr2.size
  have h1c2 := rep_one hr2
  have HR2 := Lib.hid hr2; clear hr2
  have H25 := Lib.hid (H24.out.row_ne (b' := w.heap.size) (by omega) c1)
  go_wp2_with (first
    | (refine wpList_storeR rfl _ _ _ rfl w.heap.size _ _ rfl rfl _ H14.out 71 (by kernel_rfl) hsz1 (by rw [hV_size]) h1c1 ?_)
    | (refine wpList_storeR rfl _ _ _ rfl (w.heap.size + 1) _ _ rfl rfl _ H25.out 71 (by kernel_rfl) hsz2 (by rw [hV_size]) h1c2 ?_))
  exact ret_row2 rfl w.heap.size (w.heap.size + 1) c1 c2 _ _ rfl rfl (((H14.out.row c1).row_ne (b' := w.heap.size + 1) (by omega) c2)) (H25.out.row c2) (by kernel_rfl) (by kernel_rfl) 71 71 (by kernel_rfl) (by kernel_rfl) hsz1 hsz2 rfl ⟨c1, c2, rfl, HR1.out, HR2.out, Below.row (Below.row HB4.out (Nat.le_refl _) _) (by omega) _⟩
end Go.Proofs.Ytnbjpilanjngmaa.XS
