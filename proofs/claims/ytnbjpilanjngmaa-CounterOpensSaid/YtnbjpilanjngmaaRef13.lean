/- The walks over the reference of layer 13: the stream, a strength's size. -/
import Derived.Test.YtnbjpilanjngmaaRef11B
import Derived.Test.YtnbjpilanjngmaaRef12C
import Derived.Test.YtnbjpilanjngmaaRef12D
import Derived.Test.YtnbjpilanjngmaaCtr4
namespace Go.Proofs.Ytnbjpilanjngmaa.XS
open Go Go.RowKit
attribute [local go_sem] bits_xr

set_option maxHeartbeats 1000000 in
theorem size13_any (z : Int) (hz : -9223372036854775808 ≤ z ∧ z ≤ 9223372036854775807) (w : World) :
    Calls Try.prog 27 #[.int .i64 z] w fun e w' => e = .returned (.int .i64 (szN z : Int)) ∧ w = w' := by
  obtain ⟨hz1, hz2⟩ := hz
  rcases (by omega : z < 1 ∨ 3 < z ∨ z = 1 ∨ z = 2 ∨ z = 3) with h | h | h | h | h
  · have e : szN z = 0 := by unfold szN; rw [if_neg (by omega), if_neg (by omega), if_neg (by omega)]
    have E := Lib.hid e; clear e
    have d1 : decide (z < 1) = true := decide_eq_true h
    go_enter Try.func27, Try.ntmps27
    go_wp2
    go_ret
    exact ⟨by rw [E.out]; rfl, rfl⟩
  · have e : szN z = 0 := by unfold szN; rw [if_neg (by omega), if_neg (by omega), if_neg (by omega)]
    have E := Lib.hid e; clear e
    have d1 : decide (z < 1) = false := decide_eq_false (by omega)
    have d2 : decide (3 < z) = true := decide_eq_true h
    go_enter Try.func27, Try.ntmps27
    go_wp2
    go_ret
    exact ⟨by rw [E.out]; rfl, rfl⟩
  all_goals
    subst h
    go_enter Try.func27, Try.ntmps27
    go_wp2
    go_ret
    exact ⟨by rfl, rfl⟩

set_option maxHeartbeats 1000000 in
set_option maxRecDepth 100000 in
theorem stream13_bad (w : World) (vk vd : Value) (l : List UInt8) (hv : RdB w w.heap.size vk l) (h16 : l.length ≠ 16) (h24 : l.length ≠ 24) (h32 : l.length ≠ 32) :
    Calls Try.prog 13 #[vk, vd] w fun e w' => e = .returned (.tuple #[.slice none 0 0, .int .i64 120]) ∧ Below w.heap.size w w' := by
  have HV := Lib.hid hv; clear hv
  have HN := Lib.hid (And.intro h16 (And.intro h24 h32))
  clear h16 h24 h32
  go_enter Try.func13, Try.ntmps13
  go_wp2_with fail
  refine (boxes12_any w).mono ?_
  rintro e w1 ⟨vb, rfl, hbx, hb1⟩
  have HB1 := Lib.hid hb1; clear hb1 hbx
  go_wp2_with fail
  refine (rounds12_bad w1 vk vb l ((HV.out.below HB1.out (Nat.le_refl _)).mono HB1.out.size) HN.out.1 HN.out.2.1 HN.out.2.2).mono ?_
  rintro e w2 ⟨rfl, rfl⟩
  go_wp2
  go_ret2
  exact ⟨rfl, HB1.out⟩

theorem ctr_ref {q k : Nat} (hk : k < 16) (hq : q ≤ 140737488355328) : UInt8.ofNat ((q + 1) / 2 ^ (8 * k)) = ctr (q + 1) k := by
  unfold ctr
  by_cases h : k < 8
  · rw [if_pos h]
  · rw [if_neg h, Nat.div_eq_of_lt]
    · rfl
    · exact Nat.lt_of_lt_of_le (by omega : q + 1 < 2 ^ 64) (Nat.pow_le_pow_right (by decide) (by omega))

set_option maxHeartbeats 4000000 in
set_option maxRecDepth 100000 in
theorem stream13_ok (w : World) (vk vd : Value) (key data : List UInt8) (n : Nat) (hk : RdB w w.heap.size vk key) (hd : RdB w w.heap.size vd data) (hl : key.length = 4 * n) (hn : n = 4 ∨ n = 6 ∨ n = 8) (hdl : data.length ≤ 1000000) :
    Calls Try.prog 13 #[vk, vd] w fun e w' => ∃ v, e = .returned (.tuple #[v, .int .i64 0]) ∧ OwnB w' w.heap.size 5 v (mk data.length (strm n key data)) ∧ Below w.heap.size w w' := by
  have HK := Lib.hid hk; clear hk
  have HD := Lib.hid hd; clear hd
  obtain ⟨base, cap, hve, hc1, hc2, hnn, h3⟩ := HD.out
  subst hve
  have H3 := Lib.hid h3; clear h3 hnn
  have HL := Lib.hid hl; clear hl
  have HN := Lib.hid hn; clear hn
  have hz : ∀ w : World, (zeroValue 40).run Try.prog w = .ok (.agg (bytesV (zeros 16))) w := fun w => by kernel_rfl
  go_enter Try.func13, Try.ntmps13
  go_wp2_with fail
  refine (boxes12_any w).mono ?_
  rintro e w1 ⟨vb, rfl, hbx, hb1⟩
  have HB1 := Lib.hid hb1
  have HBX := Lib.hid hbx
  have hs1 := hb1.size
  clear hb1 hbx
  go_wp2_with fail
  refine (rounds12_ok w1 vk vb key n ((HK.out.below HB1.out (Nat.le_refl _)).mono hs1) HBX.out HL.out HN.out).mono ?_
  rintro e w2 ⟨vr, rfl, hrows, hb2⟩
  have HB2 := Lib.hid (HB1.out.trans (hb2.mono hs1))
  have HBX2 := Lib.hid (HBX.out.below hb2 (Nat.le_refl _))
  have HROWS := Lib.hid (hrows.congr (g := fun r => mk 16 fun p => keyZ n (fun i => key[i]?.getD 0) (16 * r + p)) fun r hr => mk_congr fun p hp => by unfold keyZ; rw [if_pos (by omega)])
  have hs2 := hb2.size
  clear hb2 hrows
  go_wp2
  obtain ⟨L, hLd⟩ : ∃ L, L = data.length := ⟨_, rfl⟩
  have HLD := Lib.hid hLd
  rw [← hLd] at hc1 hdl ⊢
  clear hLd
  go_loopw [9, 10] (fun vo vi wr => ∃ q : Nat, 16 * q ≤ L + 15 ∧ vi = .int .i64 (16 * (q : Int)) ∧ Below w2.heap.size w2 wr ∧ OwnB wr w2.heap.size 5 vo (mk (min (16 * q) L) (strm n key data))) (fun _ vi _ => L + 15 - (intOf vi).toNat)
  case atStart => exact ⟨0, by omega, by go_num, Below.refl _ _, by rw [show min (16 * 0) L = 0 by omega]; exact OwnB.nil _ _ _⟩
  case round =>
    obtain ⟨q, hq, rfl, hb, ho⟩ := hrel
    have HB := Lib.hid hb; clear hb
    by_cases hlt : 16 * q < L
    · rw [show min (16 * q) L = 16 * q by omega] at ho
      obtain ⟨ado, capo, rfl, hco1, hco2⟩ := ho.form0
      rw [mk_length] at ho hco1 ⊢
      have HO := Lib.hid ho; clear ho
      have HLT := Lib.hid hlt
      have hd : decide (16 * (q : Int) < (L : Int)) = true := decide_eq_true (by omega)
      have hqb : q ≤ 1000000 := by omega
      go_wp2
      obtain ⟨wq, rfl⟩ : ∃ wq : World, wq = wr := ⟨_, rfl⟩
      have hsq := HB.out.size
      have HBA := Lib.hid ((Below.refl wq.heap.size wq).alloc (Nat.le_refl _) (Obj.cells (bytesV (zeros 16)) 40))
      have HTA := Lib.hid (Blk.new wq (bytesV (zeros 16)) 40)
      generalize hWA : wq.alloc (Obj.cells (bytesV (zeros 16)) 40) = WA at *
      clear hWA
      go_loopw [12, 13] (fun vn vi wr => ∃ k : Nat, k ≤ 16 ∧ vi = .int .i64 (k : Int) ∧ vn = .int .i64 ((((q + 1) / 2 ^ (8 * k) : Nat)) : Int) ∧ Below wq.heap.size wq wr ∧ Blk wr wq.heap.size (bytesV (mk 16 fun j => if j < k then ctr (q + 1) j else 0)) 40) (fun _ vi _ => 16 - (intOf vi).toNat)
      case atStart => exact ⟨0, by omega, rfl, congrArg (Value.int .i64) (by simp), HBA.out, by rw [mk_congr (g := fun _ => 0) fun i hi => if_neg (by omega)]; exact HTA.out⟩
      case round =>
        clear HBA HTA
        obtain ⟨k, hk, rfl, rfl, hb, ht⟩ := hrel
        have HB2' := Lib.hid hb; clear hb
        obtain ⟨N, hN⟩ : ∃ N, N = (q + 1) / 2 ^ (8 * k) := ⟨_, rfl⟩
        have hN8 : N ≤ 1000001 := by rw [hN]; exact Nat.le_trans (Nat.div_le_self _ _) (by omega)
        have HN' := Lib.hid hN
        rw [← hN]
        clear hN
        have hs := HB2'.out.size
        have ht' := ht.lt
        by_cases hk16 : k < 16
        · have hd2 : decide ((k : Int) < 16) = true := decide_eq_true (by omega)
          have f1 := ht.free k
          have c1 := ht.byte k (by rw [mk_length]; exact hk16)
          have HT := Lib.hid ht; clear ht
          have hbyte : (N : Int) % 256 = ((ctr (q + 1) k).toNat : Int) := by
            rw [← ctr_ref hk16 (by omega), UInt8.toNat_ofNat', ← HN'.out]; omega
          have HBY := Lib.hid hbyte; clear hbyte
          go_wp2
          go_roundw
          case rel =>
            refine ⟨k + 1, by omega, by go_num, ?_, HB2'.out.setCell (Nat.le_refl _) _, ?_⟩
            · rw [HN'.out]
              refine congrArg (Value.int .i64) ?_
              rw [show 8 * (k + 1) = 8 * k + 8 by omega, Nat.pow_add, ← Nat.div_div_eq_div_mul]; rfl
            · rw [HBY.out]
              have h := HT.out.setByte k (ctr (q + 1) k)
              rw [mk_step (ctr (q + 1))] at h
              exact h
          case measure => simp [intOf]; omega
        · obtain rfl : k = 16 := by omega
          have hd2 : decide (((16 : Nat) : Int) < 16) = false := by decide
          rw [mk_congr (g := ctr (q + 1)) fun i hi => if_pos hi] at ht
          have HT := Lib.hid ht; clear ht HN'
          rw [show ((16 : Nat) : Int) = 16 from rfl]
          have hsw := HB2'.out.size
          have HBW := Lib.hid (HB.out.trans (HB2'.out.mono hsq))
          go_wp2_with (refine wpList_loadR rfl _ _ rfl wq.heap.size _ rfl _ HT.out (by kernel_rfl) 16 (by kernel_rfl) (by rw [bytesV_size, mk_length]) ?_)
          refine (block12_any wr w1.heap.size vr vb (n + 6) (by have := HN.out; omega) (keyZ n fun i => key[i]?.getD 0) (ctr (q + 1)) (HROWS.out.below HBW.out (Nat.le_refl _)) ((HBX2.out.below HBW.out hs2).mono (by omega))).mono ?_
          rintro e w5 ⟨rfl, hb5⟩
          have HB5 := Lib.hid (HB2'.out.trans (hb5.mono hsw))
          have hs5 := HB5.out.size
          clear hb5
          obtain ⟨ks, hks⟩ : ∃ ks, ks = enc (keyZ n fun i => key[i]?.getD 0) (ctr (q + 1)) (n + 6) := ⟨_, rfl⟩
          have HKS := Lib.hid hks
          rw [← hks]
          clear hks HT
          go_wp2_with (refine wpList_storeO rfl _ _ _ rfl w5.heap.size _ _ rfl rfl _ (Blk.new _ _ _) 16 (by kernel_rfl) (by rw [bytesV_size, mk_length]) (by rw [bytesV_size, zeros_length]) (bytesV_one _) ?_; intro w6 ho6 hb6; have HB6 := Lib.hid (ho6.below (HB5.out.alloc hs5 (Obj.cells (bytesV (zeros 16)) 40)) hs5); have K6 := Lib.hid hb6; clear ho6 hb6)
          have hs6 := HB6.out.size
          have hk6 := K6.out.lt
          obtain ⟨wz, rfl⟩ : ∃ wz : World, wz = wr := ⟨_, rfl⟩
          go_loopw [9, 15] (fun vo vi wr => ∃ k : Nat, k ≤ 16 ∧ 16 * q + k ≤ L ∧ vi = .int .i64 (k : Int) ∧ Below w2.heap.size w2 wr ∧ Blk wr w5.heap.size (bytesV (mk 16 ks)) 40 ∧ OwnB wr w2.heap.size 5 vo (mk (16 * q + k) (strm n key data))) (fun _ vi _ => 16 - (intOf vi).toNat)
          case atStart => exact ⟨0, by omega, by omega, rfl, HB.out.trans (HB6.out.mono hsq), K6.out, HO.out.below HB6.out (Nat.le_refl _)⟩
          case round =>
            clear K6 HB6 hs6 hk6
            obtain ⟨k, hk, hkL, rfl, hb, k6, ho⟩ := hrel
            have HBK := Lib.hid hb; clear hb
            have hsk := HBK.out.size
            by_cases hk16 : k < 16
            · have d1 : decide ((k : Int) < 16) = true := decide_eq_true (by omega)
              by_cases hkl : 16 * q + k < L
              · have d2 : decide (16 * (q : Int) + (k : Int) < (L : Int)) = true := decide_eq_true (by omega)
                have HKL := Lib.hid hkl
                obtain ⟨bb, ob, rfl, hbb, hcell⟩ := H3.out (by have := HLD.out; omega)
                have c1 : wr.cell? ⟨bb, ob + (16 * q + k), none⟩ = some (.int .u8 ((byteAt data (16 * q + k)).toNat : Int)) :=
                  (HBK.out.cell (p := ⟨bb, ob + (16 * q + k), none⟩) (by show bb < _; omega)).trans ((HB2.out.cell (p := ⟨bb, ob + (16 * q + k), none⟩) hbb).trans (hcell _ (by have := HLD.out; omega)))
                have c2 : wr.cell? ⟨w5.heap.size, k, none⟩ = some (.int .u8 ((ks k).toNat : Int)) := by
                  have h := k6.byte k (by rw [mk_length]; exact hk16)
                  rwa [mk_get hk16] at h
                have hstep : xr (byteAt data (16 * q + k)) (ks k) = strm n key data (16 * q + k) := by
                  unfold strm ksb
                  rw [HKS.out, show (16 * q + k) / 16 = q by omega, show (16 * q + k) % 16 = k by omega]
                have HST := Lib.hid hstep; clear hstep
                have hlen := mk_length (16 * q + k) (strm n key data)
                have HLEN := Lib.hid hlen; clear hlen
                have h9 : 16 * q + k ≤ 1000000000 := by omega
                have HO2 := Lib.hid ho; clear ho
                have K6 := Lib.hid k6; clear k6
                clear hcell
                go_wp2
                refine wp_region_text1 10 (by kernel_rfl) (by kernel_rfl) (by kernel_rfl) (by kernel_rfl) (by kernel_rfl) (by kernel_rfl) (by kernel_rfl) fun K hK => ?_
                simp only [List.take_succ_cons, List.take_zero]
                go_wp2
                refine hK _ _ ⟨by rfl, ?_⟩
                clear hK K
                simp only [List.drop_succ_cons, List.drop_zero]
                rw [HST.out]
                have hbel := HBK.out.drew.alloc hsk (Obj.cells #[Value.int .u8 ((strm n key data (16 * q + k)).toNat : Int)] 5)
                have HBEL := Lib.hid hbel; clear hbel
                have hnew : ∀ j, j < 1 → (wr.drew.alloc (.cells #[Value.int .u8 ((strm n key data (16 * q + k)).toNat : Int)] 5)).cell? ⟨wr.heap.size, 0 + j, none⟩ = some (.int .u8 ((([strm n key data (16 * q + k)] : List UInt8)[j]?.getD 0).toNat : Int)) := fun j hj => by
                  obtain rfl : j = 0 := by omega
                  exact (Blk.new wr.drew _ 5).cell rfl
                have HNEW := Lib.hid hnew; clear hnew
                have hfit : (mk (16 * q + k) (strm n key data)).length + 1 ≤ 140737488355328 := by rw [mk_length]; omega
                go_wp2_with (refine wpList_appendB rfl _ _ _ rfl w2.heap.size 5 (by kernel_rfl) (by kernel_rfl) _ _ rfl (HO2.out.drew.alloc _) wr.heap.size 0 1 1 rfl [strm n key data (16 * q + k)] rfl HNEW.out hfit (by simp; omega) ?_; intro v7 w7 ho7 hg7)
                apply_assumption
                have hb7 := grown_below hg7 HBEL.out (by simp; omega) fun z hz => (HO2.out.block z hz).1
                have k7 := grown_blk hg7 (K6.out.drew.alloc _) (fun e => by
                  obtain ⟨cs, hcs⟩ := HO2.out.elem _ e
                  have h6 := K6.out.heap
                  rw [hcs] at h6
                  simp at h6)
                have HB7 := Lib.hid hb7
                have K7 := Lib.hid k7
                have HO7 := Lib.hid ho7
                clear hb7 k7 ho7 hg7
                go_wp2
                go_roundw
                case rel => exact ⟨k + 1, by omega, by omega, by go_num, HB7.out, K7.out, by rw [← Nat.add_assoc, mk_snoc]; exact HO7.out⟩
                case measure => simp [intOf]; omega
              · have hkl' : 16 * q + k = L := by omega
                have d2 : decide (16 * (q : Int) + (k : Int) < (L : Int)) = false := decide_eq_false (by omega)
                have HKL := Lib.hid hkl'; clear hkl'
                go_wp2
                go_roundw
                case rel => exact ⟨q + 1, by omega, by go_num, HBK.out, by rw [show min (16 * (q + 1)) L = 16 * q + k by have := HKL.out; omega]; exact ho⟩
                case measure => simp [intOf]; omega
            · have hkl' : k = 16 := by omega
              have d1 : decide ((k : Int) < 16) = false := decide_eq_false (by omega)
              have HKL := Lib.hid hkl'; clear hkl'
              go_wp2
              go_roundw
              case rel => exact ⟨q + 1, by omega, by go_num, HBK.out, by rw [show min (16 * (q + 1)) L = 16 * q + k by have := HKL.out; omega]; exact ho⟩
              case measure => simp [intOf]; omega
    · rw [show min (16 * q) L = data.length by rw [← HLD.out]; omega] at ho
      have hd : decide (16 * (q : Int) < (L : Int)) = false := decide_eq_false (by omega)
      go_wp2
      go_ret2
      exact ⟨_, rfl, ho.mono (by omega), HB2.out.trans (HB.out.mono (by omega))⟩
end Go.Proofs.Ytnbjpilanjngmaa.XS
