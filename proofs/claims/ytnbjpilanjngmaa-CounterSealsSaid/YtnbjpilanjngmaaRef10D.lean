/- The walks over the reference of layer 10: the sum. -/
import Derived.Test.YtnbjpilanjngmaaRef10C
namespace Go.Proofs.Ytnbjpilanjngmaa.XS
open Go Go.RowKit
set_option maxHeartbeats 2000000 in
set_option maxRecDepth 100000 in
theorem sum10_any (w : World) (v : Value) (l : List UInt8) (hv : RdB w w.heap.size v l) (hl : l.length ≤ 1000000) :
    Calls Try.prog 43 #[v] w fun e w' => e = .returned (.agg (bytesV (mk 20 (sha l)))) ∧ Below w.heap.size w w' := by
  have HV := Lib.hid hv; clear hv
  have hz20 : ∀ w : World, (zeroValue 50).run Try.prog w = .ok (.agg (bytesV (zeros 20))) w := fun w => by kernel_rfl
  go_enter Try.func43, Try.ntmps43
  go_wp2_with fail
  have hlit : (#[Value.int .u32 1732584193, Value.int .u32 4023233417, Value.int .u32 2562383102, Value.int .u32 271733878, Value.int .u32 3285377520] : Array Value) = wordsV 5 s0.at := by kernel_rfl
  rw [hlit]
  clear hlit
  obtain ⟨W, hW⟩ : ∃ W, W = ((w.alloc (Obj.cells (bytesV (zeros 20)) 50)).alloc (Obj.cells (wordsV 5 s0.at) 65)) := ⟨_, rfl⟩
  have hb0 : Below w.heap.size w W := by rw [hW]; exact (((Below.refl _ _).alloc (Nat.le_refl _) _).alloc (by simp) _)
  have k1 : Blk W w.heap.size (bytesV (zeros 20)) 50 := by rw [hW]; exact (Blk.new w _ _).alloc _
  have k2 : Blk W (w.heap.size + 1) (wordsV 5 s0.at) 65 := by
    have h := Blk.new (w.alloc (Obj.cells (bytesV (zeros 20)) 50)) (wordsV 5 s0.at) 65
    rw [show (w.alloc (Obj.cells (bytesV (zeros 20)) 50)).heap.size = w.heap.size + 1 by simp] at h
    rw [hW]; exact h
  have hsz : W.heap.size = w.heap.size + 2 := by rw [hW]; simp
  have H1 := Lib.hid k1
  have H2 := Lib.hid k2
  have HB0 := Lib.hid hb0
  have HSZ := Lib.hid hsz
  rw [← hW]
  clear hW k1 k2 hb0 hsz
  refine (message10_any W v l ((HV.out.below HB0.out (Nat.le_refl _)).mono HB0.out.size) hl).mono ?_
  rintro e w1 ⟨u, rfl, ho, hb⟩
  have h64 : (padL l).length % 64 = 0 := padL_mod l
  have hM : (padL l).length ≤ 1000200 := by rw [padL_length]; have := zc_lt l.length; omega
  have hM0 : 0 < (padL l).length := by rw [padL_length]; omega
  obtain ⟨m, hm⟩ : ∃ m, m = padL l := ⟨_, rfl⟩
  have HM := Lib.hid hm
  rw [← hm] at ho h64 hM hM0
  clear hm
  obtain ⟨g, cap, rfl, hg, hg2, hc1, hc2⟩ := ho.form hM0
  obtain ⟨q, hq⟩ : ∃ q, m.length = 64 * q := ⟨m.length / 64, by omega⟩
  rw [hq] at ho hc1 hM hM0 ⊢
  have HQ := Lib.hid hq
  clear hq h64
  have HO := Lib.hid ho
  have HB := Lib.hid (HB0.out.trans (hb.mono HB0.out.size))
  have HW1 := Lib.hid hb
  have K1 := Lib.hid (H1.out.below hb (by have := HSZ.out; omega))
  have K2 := Lib.hid (H2.out.below hb (by have := HSZ.out; omega))
  have hgw : w.heap.size + 2 ≤ g := by have := HSZ.out; omega
  clear hb ho hg
  go_wp2
  go_loopw [5] (fun vi wr => ∃ k : Nat, k ≤ q ∧ vi = .int .i64 (64 * (k : Int)) ∧ Below w.heap.size w wr ∧ Blk wr w.heap.size (bytesV (zeros 20)) 50 ∧ Blk wr (w.heap.size + 1) (wordsV 5 (stN (byteAt m) k).at) 65 ∧ OwnB wr (w.heap.size + 2) 5 (.slice (some ⟨g, 0, none⟩) (64 * q) cap) m ∧ g < wr.heap.size) (fun vi _ => 64 * q - (intOf vi).toNat)
  case atStart => exact ⟨0, by omega, by go_num, HB.out, K1.out, K2.out, by rw [← HSZ.out]; exact HO.out, hg2⟩
  case round =>
    clear HO HB HW1 K1 K2 hg2
    obtain ⟨k, hk, rfl, hb, k1, k2, ho, hg2⟩ := hrel
    have HB := Lib.hid hb
    have K1 := Lib.hid k1
    have K2 := Lib.hid k2
    have HO := Lib.hid ho
    clear hb k1 k2 ho
    by_cases hlt : k < q
    · have hd : decide (64 * (k : Int) < ((64 * q : Nat) : Int)) = true := decide_eq_true (by omega)
      go_wp2
      have hMc : 64 * q ≤ cap := hc1
      have h1c : 64 * (k : Int) + 64 ≤ (cap : Int) := by omega
      have h2c : ¬ (64 * (k : Int) = (cap : Int)) := by omega
      refine wp_region_cls 7 (fun w' => Below wr.heap.size wr w') (by kernel_rfl) (by kernel_rfl) (by kernel_rfl) (by rfl) (Below.refl _ _).drew ?_
      simp only [List.take_succ_cons, List.take_zero]
      refine quiet_segN 6 (by kernel_rfl) (by kernel_rfl) (by rfl) ⟨_, Below.refl _ _⟩ ?_
      apply Exists.intro
      refine ⟨fun w' hC K hK => ?seg, ?next⟩
      case seg =>
        have K2' := Lib.hid (K2.out.below hC (by have := K2.out.lt; omega))
        have HC := Lib.hid hC; clear hC
        simp only [List.take_succ_cons, List.take_zero]
        go_wp2_with (refine wpList_loadR rfl _ _ rfl (w.heap.size + 1) _ rfl _ K2'.out (by kernel_rfl) 5 (by kernel_rfl) (by rw [wordsV_size]) ?_)
        exact hK _ _ ⟨by rfl, rfl⟩
      case next =>
        simp only [List.drop_succ_cons, List.drop_zero]
        refine quiet_call rfl 53 #[.agg (wordsV 5 (stN (byteAt m) k).at), .slice (some ⟨g, 64 * k, none⟩) (64 * k + 64 - 64 * k) (cap - 64 * k)] (fun w' => by kernel_rfl) (.agg (wordsV 5 (stN (byteAt m) (k + 1)).at))
          (fun w' hC => by
            rw [show 64 * k + 64 - 64 * k = 64 by omega]
            exact (block10_any w' (stN (byteAt m) k) g (64 * k) (cap - 64 * k) (by have := hC.size; omega) (by omega) (by omega) (fun j => byteAt m (64 * k + j)) (fun j hj => (hC.cell (p := ⟨g, 64 * k + j, none⟩) hg2).trans (by have h := HO.out; rw [← HQ.out] at h; exact h.cell (by rw [HQ.out]; omega)))).mono fun e w2 h => ⟨h.1, hC.trans (h.2.mono hC.size)⟩) ?_
        refine wpQuiet_nil ?_
        intro w' hC
        have HC := Lib.hid hC; clear hC
        have K2' := Lib.hid (K2.out.below HC.out K2.out.lt)
        go_wp2_with (refine wpList_storeR rfl _ _ _ rfl (w.heap.size + 1) _ _ rfl rfl _ K2'.out 5 (by kernel_rfl) (by rw [wordsV_size]) (by rw [wordsV_size]) (wordsV_one _ _) ?_)
        go_roundw
        case rel =>
          refine ⟨k + 1, by omega, by go_num, Below.row (HB.out.trans (HC.out.mono HB.out.size)) (Nat.le_succ _) _, (K1.out.below HC.out K1.out.lt).row_ne (by omega) _, K2'.out.row _, ?_, ?_⟩
          · have h1 := HO.out.below HC.out (Nat.le_refl _)
            exact h1.same fun b hb => setRow_other _ _ _ _ (by simp [Value.ownBlock] at hb; omega)
          · have := HC.out.size; simp [size_setRow]; omega
        case measure => simp [intOf]; omega
    · obtain rfl : k = q := by omega
      have hd : decide (64 * (k : Int) < ((64 * k : Nat) : Int)) = false := decide_eq_false (by omega)
      go_wp2
      have K3 := Lib.hid (K2.out.alloc (Obj.cells (bytesV (zeros 20)) 50))
      have K0 := Lib.hid (K1.out.alloc (Obj.cells (bytesV (zeros 20)) 50))
      have KN := Lib.hid (Blk.new wr (bytesV (zeros 20)) 50)
      have HBN := Lib.hid (HB.out.alloc HB.out.size (Obj.cells (bytesV (zeros 20)) 50))
      have hws : w.heap.size + 2 ≤ wr.heap.size := by omega
      obtain ⟨S, hS⟩ : ∃ S, S = stN (byteAt m) k := ⟨_, rfl⟩
      have HS := Lib.hid hS
      rw [← hS] at K3
      clear hS K1 K2 HO HB hg2 hc1
      obtain ⟨wo, rfl⟩ : ∃ wo : World, wo = wr := ⟨_, rfl⟩
      generalize hWN : wo.alloc (Obj.cells (bytesV (zeros 20)) 50) = WN at *
      clear hWN
      go_loopw [7] (fun vi wr => ∃ i : Nat, i ≤ 20 ∧ vi = .int .i64 i ∧ Below w.heap.size w wr ∧ Blk wr w.heap.size (bytesV (zeros 20)) 50 ∧ Blk wr (w.heap.size + 1) (wordsV 5 S.at) 65 ∧ Blk wr wo.heap.size (bytesV (mk 20 fun p => if p < i then outB S p else 0)) 50) (fun i _ => 20 - (intOf i).toNat)
      case atStart => exact ⟨0, by omega, rfl, HBN.out, K0.out, K3.out, by rw [mk_congr (g := fun _ => 0) fun i _ => if_neg (by omega)]; exact KN.out⟩
      case round =>
        clear HBN K0 K3 KN
        obtain ⟨i, hi, rfl, hb, k0, k3, kn⟩ := hrel
        by_cases hlt2 : i < 20
        · have hd2 : decide ((i : Int) < 20) = true := decide_eq_true (by omega)
          have c1 : wr.cell? ⟨w.heap.size + 1, i / 4, none⟩ = some (.int .u32 ((S.at (i / 4)).toNat : Int)) := k3.cell (wordsV_get (by omega))
          have c2 := kn.byte i (by rw [mk_length]; exact hlt2)
          have f2 := kn.free i
          have hob := outB_byte S (i / 4) (i % 4) (Nat.mod_lt _ (by decide))
          rw [show 4 * (i / 4) + i % 4 = i by omega] at hob
          have HOB := Lib.hid hob; clear hob
          have HB := Lib.hid hb; clear hb
          have K0 := Lib.hid k0; clear k0
          have K3 := Lib.hid k3; clear k3
          have KN := Lib.hid kn; clear kn
          go_wp2
          rw [HOB.out]
          refine ⟨⟨i + 1, by omega, by go_num, HB.out.setCell (by show w.heap.size ≤ wo.heap.size; omega) _, K0.out.set_ne (by omega) _ _ _, K3.out.set_ne (by omega) _ _ _, ?_⟩, by simp [intOf]; omega⟩
          have h := KN.out.setByte i (outB S i)
          rw [mk_step (outB S)] at h
          exact h
        · obtain rfl : i = 20 := by omega
          rw [mk_congr (g := outB S) fun i hi => if_pos hi] at kn
          have KN := Lib.hid kn; clear kn
          have hsha : sha l = outB S := by unfold sha st; rw [HS.out, ← HM.out, HQ.out, Nat.mul_div_cancel_left _ (by decide)]
          have HSHA := Lib.hid hsha; clear hsha
          go_wp2_with (first
            | (refine wpList_loadR rfl _ _ rfl wo.heap.size _ rfl _ KN.out (by kernel_rfl) 20 (by kernel_rfl) (by rw [bytesV_size, mk_length]) ?_)
            | (refine wpList_storeR rfl _ _ _ rfl w.heap.size _ _ rfl rfl _ k0 20 (by kernel_rfl) (by rw [bytesV_size, mk_length]) (by rw [bytesV_size, zeros_length]) (bytesV_one _) ?_))
          rw [HSHA.out]
          exact ret_row rfl w.heap.size (bytesV (mk 20 (outB S))) 50 rfl (k0.row _) (by kernel_rfl) 20 (by kernel_rfl) (by rw [bytesV_size, mk_length]) rfl ⟨rfl, Below.row hb (Nat.le_refl _) _⟩
end Go.Proofs.Ytnbjpilanjngmaa.XS
