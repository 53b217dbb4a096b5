/- The walks over package cipher, fifth part: a block. -/
import Derived.Test.YtnbjpilanjngmaaCipher4
namespace Go.Proofs.Ytnbjpilanjngmaa.XS
open Go Go.RowKit
attribute [local go_sem] bits_xr

set_option maxHeartbeats 1000000 in
set_option maxRecDepth 100000 in
theorem block_any (w : World) (kb : Nat) (ks b : Nat → UInt8) (R : Nat) (h1 : 1 ≤ R) (h14 : R ≤ 14) (hk : Blk w kb (keyV ks R) 59) :
    Calls Try.prog 19 #[.pointer (some ⟨kb, 0, none⟩), .agg (bytesV (mk 16 b))] w fun e w' => e = .returned (.agg (bytesV (mk 16 (enc ks b R)))) ∧ Below w.heap.size w w' := by
  have hkb := hk.lt
  have HK := Lib.hid hk; clear hk
  have key : ∀ w', Below w.heap.size w w' → ∀ k, k < 240 → w'.cell? ⟨kb, k, none⟩ = some (.int .u8 ((ks k).toNat : Int)) := fun w' hb k hk =>
    (HK.out.below hb hkb).cell (keyV_byte ks R k hk)
  have krd : ∀ w', Below w.heap.size w w' → w'.cell? ⟨kb, 240, none⟩ = some (.int .i64 (R : Int)) := fun w' hb =>
    (HK.out.below hb hkb).cell (keyV_rounds ks R)
  have KEY := Lib.hid key; clear key
  have KRD := Lib.hid krd; clear krd
  have hz : ∀ w : World, (zeroValue 40).run Try.prog w = .ok (.agg (bytesV (zeros 16))) w := fun w => by kernel_rfl
  go_enter Try.func19, Try.ntmps19
  go_wp2_with (refine wpList_loadR rfl _ _ rfl w.heap.size _ rfl 40 ((Blk.new w (bytesV (mk 16 b)) 40).alloc _) (by kernel_rfl) 16 (by kernel_rfl) (by rw [bytesV_size, mk_length]) ?_)
  refine (add_any _ kb ks b 0 (by omega) (by simp; omega) (KEY.out _ (((Below.refl _ _).alloc (Nat.le_refl _) _).alloc (by simp) _))).mono ?_
  rintro e w1 ⟨rfl, hb⟩
  have H1 := Lib.hid ((((Blk.new w (bytesV (mk 16 b)) 40).alloc (Obj.cells (bytesV (zeros 16)) 40))).below hb (by simp; omega))
  have H2 := Lib.hid ((Blk.new' (w := w.alloc (Obj.cells (bytesV (mk 16 b)) 40)) (b := w.heap.size + 1) (by simp) (bytesV (zeros 16)) 40).below hb (by simp))
  have HB := Lib.hid ((((Below.refl w.heap.size w).alloc (Nat.le_refl _) (Obj.cells (bytesV (mk 16 b)) 40)).alloc (by simp) (Obj.cells (bytesV (zeros 16)) 40)).trans (hb.mono (by simp; omega)))
  clear hb
  go_wp2_with (refine wpList_storeR rfl _ _ _ rfl w.heap.size _ _ rfl rfl _ H1.out 16 (by kernel_rfl) (by rw [bytesV_size, mk_length]) (by rw [bytesV_size, mk_length]) (bytesV_one _) ?_)
  go_loopw [5] (fun i wr => ∃ r : Nat, r + 1 ≤ R ∧ i = .int .i64 ((r : Int) + 1) ∧ Below w.heap.size w wr ∧ Blk wr w.heap.size (bytesV (mk 16 (blk ks b r))) 40 ∧ Blk wr (w.heap.size + 1) (bytesV (zeros 16)) 40) (fun i _ => R - (intOf i).toNat)
  case atStart => exact ⟨0, by omega, by go_num, Below.row HB.out (Nat.le_refl _) _, H1.out.row _, H2.out.row_ne (by omega) _⟩
  case round =>
    obtain ⟨r, hr, rfl, hbel, h1, h2⟩ := hrel
    clear HB H1 H2
    have c240 := KRD.out wr hbel
    have HB := Lib.hid hbel; clear hbel
    have H1 := Lib.hid h1; clear h1
    have H2 := Lib.hid h2; clear h2
    have hsz := H2.out.lt
    by_cases hlt : r + 1 < R
    · have hd : decide ((r : Int) + 1 < (R : Int)) = true := decide_eq_true (by omega)
      go_wp2_with (refine wpList_loadR rfl _ _ rfl w.heap.size _ rfl _ H1.out (by kernel_rfl) 16 (by kernel_rfl) (by rw [bytesV_size, mk_length]) ?_)
      refine (moved_any _ _).mono ?_
      rintro e w1 ⟨rfl, hb1⟩
      have HB1 := Lib.hid hb1; clear hb1
      go_wp2_with fail
      refine (mixed_any _ _).mono ?_
      rintro e w2 ⟨rfl, hb2⟩
      have HB2 := Lib.hid (HB1.out.trans (hb2.mono HB1.out.size)); clear hb2 HB1
      go_wp2_with fail
      refine (add_any _ kb ks _ (r + 1) (by omega) (by have := HB2.out.size; omega) (KEY.out _ (HB.out.trans (HB2.out.mono (by omega))))).mono ?_
      rintro e w3 ⟨rfl, hb3⟩
      have HB3 := Lib.hid (HB2.out.trans (hb3.mono HB2.out.size)); clear hb3 HB2
      have H1' := Lib.hid (H1.out.below HB3.out (by omega))
      clear c240
      go_wp2_with (refine wpList_storeR rfl _ _ _ rfl w.heap.size _ _ rfl rfl _ H1'.out 16 (by kernel_rfl) (by rw [bytesV_size, mk_length]) (by rw [bytesV_size, mk_length]) (bytesV_one _) ?_)
      go_roundw
      case rel => exact ⟨r + 1, by omega, by go_num, Below.row (HB.out.trans (HB3.out.mono (by omega))) (Nat.le_refl _) _, H1'.out.row _, (H2.out.below HB3.out hsz).row_ne (by omega) _⟩
      case measure => simp [intOf]; omega
    · obtain rfl : R = r + 1 := by omega
      have hd : decide ((r : Int) + 1 < ((r + 1 : Nat) : Int)) = false := decide_eq_false (by omega)
      have hkb' : kb < wr.heap.size := by omega
      go_wp2
      refine wp_region_cls 8 (fun w' => Below wr.heap.size wr w') (by kernel_rfl) (by kernel_rfl) (by kernel_rfl) (by rfl) (Below.refl _ _).drew ?_
      simp only [List.take_succ_cons, List.take_zero]
      refine quiet_segN 2 (by kernel_rfl) (by kernel_rfl) (by rfl) ⟨_, Below.refl _ _⟩ ?_
      apply Exists.intro
      refine ⟨fun w' hC K hK => ?seg, ?next⟩
      case seg =>
        have H1' := Lib.hid (H1.out.below hC (by omega))
        have HC := Lib.hid hC; clear hC
        simp only [List.take_succ_cons, List.take_zero]
        go_wp2_with (refine wpList_loadR rfl _ _ rfl w.heap.size _ rfl _ H1'.out (by kernel_rfl) 16 (by kernel_rfl) (by rw [bytesV_size, mk_length]) ?_)
        exact hK _ _ ⟨by rfl, rfl⟩
      case next =>
        simp only [List.drop_succ_cons, List.drop_zero]
        refine quiet_call rfl 35 #[.agg (bytesV (mk 16 (blk ks b r)))] (fun w' => by kernel_rfl) (.agg (bytesV (mk 16 (mvd (blk ks b r))))) (fun w' hC => (moved_any w' _).mono fun e w2 h => ⟨h.1, hC.trans (h.2.mono hC.size)⟩) ?_
        refine quiet_segN 4 (by kernel_rfl) (by kernel_rfl) (by rfl) ⟨_, Below.refl _ _⟩ ?_
        apply Exists.intro
        refine ⟨fun w' hC K hK => ?seg2, ?next2⟩
        case seg2 =>
          have c240' := (hC.cell (p := ⟨kb, 240, none⟩) hkb').trans c240
          have HC := Lib.hid hC; clear hC
          simp only [List.take_succ_cons, List.take_zero]
          go_wp2
          exact hK _ _ ⟨by rfl, rfl⟩
        case next2 =>
          simp only [List.drop_succ_cons, List.drop_zero]
          refine quiet_call rfl 33 #[.pointer (some ⟨kb, 0, none⟩), .agg (bytesV (mk 16 (mvd (blk ks b r)))), .int .i64 ((r + 1 : Nat) : Int)] (fun w' => by kernel_rfl) (.agg (bytesV (mk 16 (addK ks (mvd (blk ks b r)) (r + 1)))))
            (fun w' hC => (add_any w' kb ks _ (r + 1) (by omega) (by have := hC.size; omega) (KEY.out _ (HB.out.trans (hC.mono (by omega))))).mono fun e w2 h => ⟨h.1, hC.trans (h.2.mono hC.size)⟩) ?_
          refine wpQuiet_nil ?_
          intro w' hC
          have HC := Lib.hid hC; clear hC
          have H2' := Lib.hid (H2.out.below HC.out hsz)
          go_wp2_with (refine wpList_storeR rfl _ _ _ rfl (w.heap.size + 1) _ _ rfl rfl _ H2'.out 16 (by kernel_rfl) (by rw [bytesV_size, mk_length]) (by rw [bytesV_size, zeros_length]) (bytesV_one _) ?_)
          exact ret_row rfl (w.heap.size + 1) _ _ rfl (H2'.out.row _) (by kernel_rfl) 16 (by kernel_rfl) (by rw [bytesV_size, mk_length]) rfl ⟨rfl, Below.row (HB.out.trans (HC.out.mono (by omega))) (by omega) _⟩
end Go.Proofs.Ytnbjpilanjngmaa.XS
