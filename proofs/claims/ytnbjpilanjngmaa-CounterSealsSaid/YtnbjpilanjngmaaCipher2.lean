/- The walks over package cipher, second part. -/
import Derived.Test.YtnbjpilanjngmaaCipher
namespace Go.Proofs.Ytnbjpilanjngmaa.XS
open Go Go.RowKit

set_option maxHeartbeats 1000000 in
set_option maxRecDepth 100000 in
theorem add_any (w : World) (kb : Nat) (ks : Nat → UInt8) (b : Nat → UInt8) (r : Nat) (hr : r ≤ 14)
    (hkb : kb < w.heap.size) (hk : ∀ k, k < 240 → w.cell? ⟨kb, k, none⟩ = some (.int .u8 ((ks k).toNat : Int))) :
    Calls Try.prog 33 #[.pointer (some ⟨kb, 0, none⟩), .agg (bytesV (mk 16 b)), .int .i64 (r : Int)] w fun e w' => e = .returned (.agg (bytesV (mk 16 (addK ks b r)))) ∧ Below w.heap.size w w' := by
  have HK := Lib.hid hk; clear hk
  have hz : ∀ w : World, (zeroValue 40).run Try.prog w = .ok (.agg (bytesV (zeros 16))) w := fun w => by kernel_rfl
  go_enter Try.func33, Try.ntmps33
  go_wp2
  go_loopw [8] (fun i wr => ∃ k : Nat, k ≤ 16 ∧ i = .int .i64 k ∧ Below w.heap.size w wr ∧ Blk wr w.heap.size (bytesV (mk 16 fun i => if i < k then addK ks b r i else b i)) 40 ∧ Blk wr (w.heap.size + 1) (bytesV (zeros 16)) 40) (fun i _ => 16 - (intOf i).toNat)
  case atStart => exact ⟨0, by omega, rfl, ((Below.refl _ _).alloc (Nat.le_refl _) _).alloc (by simp) _, (Blk.new _ _ _).alloc _, Blk.new' (by simp) _ _⟩
  case round =>
    obtain ⟨k, hk, rfl, hbel, h4, h6⟩ := hrel
    by_cases hlt : k < 16
    · have c1 := h4.byte k (by rw [mk_length]; exact hlt)
      rw [mk_get hlt, if_neg (Nat.lt_irrefl k)] at c1
      have f1 := h4.free k
      have c2 : wr.cell? ⟨kb, (4 * r + k / 4) * 4 + k % 4, none⟩ = some (.int .u8 ((ks (16 * r + k)).toNat : Int)) := by
        rw [hbel.cell hkb, HK.out _ (by omega)]; congr 5; omega
      have HB := Lib.hid hbel; clear hbel
      have H4 := Lib.hid h4; clear h4
      have H6 := Lib.hid h6; clear h6
      go_wp2
      refine wp_region_text 18 (by kernel_rfl) (by kernel_rfl) (by kernel_rfl) (by kernel_rfl) fun K hK => ?_
      simp only [List.take_succ_cons, List.take_zero]
      go_wp2
      refine hK _ _ ⟨by rfl, ?_⟩
      clear hK K
      simp only [List.drop_succ_cons, List.drop_zero]
      go_wp2
      go_roundw
      case rel =>
        refine ⟨k + 1, by omega, by go_num, (HB.out.setCell (Nat.le_refl _) _).drew, ?_, (H6.out.set_ne (by omega) _ _ _).drew⟩
        rw [bits_xor_u8]
        have := H4.out.setByte k (b k ^^^ ks (16 * r + k))
        rw [show b k ^^^ ks (16 * r + k) = addK ks b r k from rfl, mk_step] at this
        exact this.drew
      case measure => simp [intOf]; omega
    · obtain rfl : k = 16 := by omega
      have H4 := Lib.hid h4; clear h4
      have H6 := Lib.hid h6; clear h6
      have HB := Lib.hid hbel; clear hbel
      go_wp2_with (first
        | (refine wpList_loadR rfl _ _ rfl w.heap.size _ rfl _ H4.out (by kernel_rfl) 16 (by kernel_rfl) (by rw [bytesV_size, mk_length]) ?_)
        | (refine wpList_storeR rfl _ _ _ rfl (w.heap.size + 1) _ _ rfl rfl _ H6.out 16 (by kernel_rfl) (by rw [bytesV_size, mk_length]) (by rw [bytesV_size, zeros_length]) (bytesV_one _) ?_))
      refine ret_row rfl (w.heap.size + 1) _ _ rfl (H6.out.row _) (by kernel_rfl) 16 (by kernel_rfl) (by rw [bytesV_size, mk_length]) rfl ⟨?_, Below.row HB.out (by omega) _⟩
      rw [mk_congr (g := addK ks b r) fun i hi => if_pos hi]

set_option maxHeartbeats 1000000 in
set_option maxRecDepth 100000 in
theorem moved_any (w : World) (b : Nat → UInt8) :
    Calls Try.prog 35 #[.agg (bytesV (mk 16 b))] w fun e w' => e = .returned (.agg (bytesV (mk 16 (mvd b)))) ∧ Below w.heap.size w w' := by
  have hz : ∀ w : World, (zeroValue 40).run Try.prog w = .ok (.agg (bytesV (zeros 16))) w := fun w => by kernel_rfl
  go_enter Try.func35, Try.ntmps35
  go_wp2
  go_loopw [6] (fun i wr => ∃ c : Nat, c ≤ 4 ∧ i = .int .i64 c ∧ Below w.heap.size w wr ∧ Blk wr w.heap.size (bytesV (mk 16 b)) 40 ∧ Blk wr (w.heap.size + 1) (bytesV (zeros 16)) 40 ∧ Blk wr (w.heap.size + 2) (bytesV (mk 16 fun i => if i < 4 * c then mvd b i else 0)) 40) (fun i _ => 4 - (intOf i).toNat)
  case atStart => exact ⟨0, by omega, rfl, (((Below.refl _ _).alloc (Nat.le_refl _) _).alloc (by simp) _).alloc (by simp; omega) _, ((Blk.new _ _ _).alloc _).alloc _, (Blk.new' (by simp) _ _).alloc _, Blk.new' (by simp) _ _⟩
  case round =>
    obtain ⟨c, hc, rfl, hbel, h1, h2, h3⟩ := hrel
    have HB := Lib.hid hbel; clear hbel
    have H1 := Lib.hid h1; clear h1
    have H2 := Lib.hid h2; clear h2
    have H3 := Lib.hid h3; clear h3
    by_cases hlt : c < 4
    · have hd : decide ((c : Int) < 4) = true := decide_eq_true (by omega)
      go_wp2
      obtain ⟨wo, rfl⟩ : ∃ wo : World, wo = wr := ⟨_, rfl⟩
      go_loopw [9] (fun i wr => ∃ k : Nat, k ≤ 4 ∧ i = .int .i64 k ∧ Below w.heap.size w wr ∧ Blk wr w.heap.size (bytesV (mk 16 b)) 40 ∧ Blk wr (w.heap.size + 1) (bytesV (zeros 16)) 40 ∧ Blk wr (w.heap.size + 2) (bytesV (mk 16 fun i => if i < 4 * c + k then mvd b i else 0)) 40) (fun i _ => 4 - (intOf i).toNat)
      case atStart => exact ⟨0, by omega, rfl, HB.out, H1.out, H2.out, H3.out⟩
      case round =>
        obtain ⟨k, hk, rfl, hbel, h1, h2, h3⟩ := hrel
        clear HB H1 H2 H3
        have HB := Lib.hid hbel; clear hbel
        have H1 := Lib.hid h1; clear h1
        have H2 := Lib.hid h2; clear h2
        have H3 := Lib.hid h3; clear h3
        by_cases hlt2 : k < 4
        · have c1 := H1.out.byte (4 * ((c + k) % 4) + k) (by rw [mk_length]; omega)
          rw [mk_get (by omega)] at c1
          have hx := (b (4 * ((c + k) % 4) + k)).toNat_lt
          have hbox := box_at (b (4 * ((c + k) % 4) + k))
          have hsz := H3.out.lt
          go_wp2
          refine wp_region_cls 16 (fun w' => Below wr.heap.size wr w') (by kernel_rfl) (by kernel_rfl) (by kernel_rfl) (by rfl) (Below.refl _ _).drew ?_
          simp only [List.take_succ_cons, List.take_zero]
          refine quiet_segN 4 (by kernel_rfl) (by kernel_rfl) (by rfl) ⟨_, Below.refl _ _⟩ ?_
          apply Exists.intro
          refine ⟨fun w' hC K hK => ?seg, ?next⟩
          case seg =>
            have HC := Lib.hid hC; clear hC
            simp only [List.take_succ_cons, List.take_zero]
            go_wp2
            exact hK _ _ ⟨by rfl, rfl⟩
          case next =>
            simp only [List.drop_succ_cons, List.drop_zero]
            refine quiet_call rfl 45 #[] (fun w' => by kernel_rfl) (.agg boxV) (fun w' hC => (box_any w').mono fun e w2 h => ⟨h.1, hC.trans (h.2.mono hC.size)⟩) ?_
            refine quiet_segN 11 (by kernel_rfl) (by kernel_rfl) (by rfl) ⟨_, Below.refl _ _⟩ ?_
            apply Exists.intro
            refine ⟨fun w' hC K hK => ?seg2, ?next2⟩
            case seg2 =>
              have c1' := (hC.cell (p := ⟨w.heap.size, 4 * ((c + k) % 4) + k, none⟩) (by show w.heap.size < wr.heap.size; omega)).trans c1
              have HC := Lib.hid hC; clear hC
              simp only [List.take_succ_cons, List.take_zero]
              go_wp2_with (refine wpList_indexA rfl _ _ _ rfl boxV rfl _ ((b (4 * ((c + k) % 4) + k)).toNat : Int) rfl 256 5 (by kernel_rfl) (by kernel_rfl) (by omega) (by omega) _ (by simpa using hbox) ?_)
              exact hK _ _ ⟨by rfl, rfl⟩
            case next2 =>
              simp only [List.drop_succ_cons, List.drop_zero]
              refine wpQuiet_nil ?_
              clear c1
              intro w' hC
              have HC := Lib.hid hC; clear hC
              have H3' := Lib.hid (H3.out.below HC.out hsz)
              have f3 := H3'.out.free (4 * c + k)
              have c3 := H3'.out.byte (4 * c + k) (by rw [mk_length]; omega)
              go_wp2
              go_roundw
              case rel =>
                refine ⟨k + 1, by omega, by go_num, (HB.out.trans (HC.out.mono (by omega))).setCell (by show w.heap.size ≤ w.heap.size + 2; omega) _, (H1.out.below HC.out (by omega)).set_ne (by omega) _ _ _, (H2.out.below HC.out (by omega)).set_ne (by omega) _ _ _, ?_⟩
                have := H3'.out.setByte (4 * c + k) (mvd b (4 * c + k))
                rw [mk_step] at this
                have e : bx (b (4 * ((c + k) % 4) + k)) = mvd b (4 * c + k) := by
                  unfold mvd; rw [show (4 * c + k) / 4 = c by omega, show (4 * c + k) % 4 = k by omega]
                rw [e]
                exact this
              case measure => simp [intOf]; omega
        · obtain rfl : k = 4 := by omega
          go_wp2
          go_roundw
          case rel => exact ⟨c + 1, by omega, by go_num, HB.out, H1.out, H2.out, H3.out⟩
          case measure => simp [intOf]; omega
    · obtain rfl : c = 4 := by omega
      go_wp2_with (first
        | (refine wpList_loadR rfl _ _ rfl (w.heap.size + 2) _ rfl _ H3.out (by kernel_rfl) 16 (by kernel_rfl) (by rw [bytesV_size, mk_length]) ?_)
        | (refine wpList_storeR rfl _ _ _ rfl (w.heap.size + 1) _ _ rfl rfl _ H2.out 16 (by kernel_rfl) (by rw [bytesV_size, mk_length]) (by rw [bytesV_size, zeros_length]) (bytesV_one _) ?_))
      refine ret_row rfl (w.heap.size + 1) _ _ rfl (H2.out.row _) (by kernel_rfl) 16 (by kernel_rfl) (by rw [bytesV_size, mk_length]) rfl ⟨?_, Below.row HB.out (by omega) _⟩
      rw [mk_congr (g := mvd b) fun i hi => if_pos (by omega)]
end Go.Proofs.Ytnbjpilanjngmaa.XS
