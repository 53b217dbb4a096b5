/- The walks over the reference of layer 12, fourth part: blocks. -/
import Derived.Test.YtnbjpilanjngmaaRef12B
namespace Go.Proofs.Ytnbjpilanjngmaa.XS
open Go Go.RowKit
attribute [local go_sem] bits_xr

set_option maxHeartbeats 2000000 in
set_option maxRecDepth 100000 in
theorem block12_any (w : World) (base : Nat) (vr vb : Value) (R : Nat) (hR : 2 ≤ R ∧ R ≤ 14) (ks b : Nat → UInt8) (hr : RowsB w base 22 5 vr (R + 1) (fun r => mk 16 fun p => ks (16 * r + p))) (hbx : RdB w w.heap.size vb bxs) :
    Calls Try.prog 22 #[vr, vb, .agg (bytesV (mk 16 b))] w fun e w' => e = .returned (.agg (bytesV (mk 16 (enc ks b R)))) ∧ Below w.heap.size w w' := by
  have hz : ∀ w : World, (zeroValue 40).run Try.prog w = .ok (.agg (bytesV (zeros 16))) w := fun w => by kernel_rfl
  obtain ⟨base', capb, rfl, hcb1, hcb2, _, h3⟩ := hbx
  obtain ⟨bb, ob, rfl, hbblt, hcellb⟩ := h3 (by unfold bxs; rw [mk_length]; omega)
  have HCB := Lib.hid hcellb; clear hcellb h3
  have hbl : bxs.length = 256 := mk_length _ _
  rw [hbl] at hcb1 HCB ⊢
  have HBX : Hid (∀ x : UInt8, w.cell? ⟨bb, ob + x.toNat, none⟩ = some (.int .u8 ((bx x).toNat : Int))) := fun x => by
    rw [HCB.out _ x.toNat_lt]; unfold bxs; rw [mk_get x.toNat_lt, UInt8.ofNat_toNat]
  clear HCB hbl
  obtain ⟨g, cp, rfl, hg1, hg2, hn1, hn2⟩ := hr.at (i := 0) (by omega)
  have HRD : Hid (∀ (i : Nat) (w' : World), i < R + 1 → Below w.heap.size w w' → ∃ gv cv, w'.cell? ⟨g, i, none⟩ = some (.slice (some ⟨gv, 0, none⟩) 16 cv) ∧ 16 ≤ cv ∧ cv ≤ 9223372036854775807 ∧ ∀ j, j < 16 → w'.cell? ⟨gv, j, none⟩ = some (.int .u8 ((ks (16 * i + j)).toNat : Int))) := fun i w' hi hb => by
    obtain ⟨u, hu, huo⟩ := hr.cell hi
    obtain ⟨gv, cv, rfl, hgv1, hgv2, hcv1, hcv2⟩ := huo.form (by rw [mk_length]; omega)
    rw [mk_length] at hu hcv1
    refine ⟨gv, cv, (hb.cell (p := ⟨g, i, none⟩) hg2).trans hu, hcv1, hcv2, fun j hj => ?_⟩
    have h2 := OwnB.cell (l := mk 16 fun p => ks (16 * i + p)) (g := gv) (cap := cv) huo (j := j) (by rw [mk_length]; exact hj)
    rw [mk_get hj] at h2
    exact (hb.cell (p := ⟨gv, j, none⟩) hgv2).trans h2
  clear hr
  go_enter Try.func22, Try.ntmps22
  go_wp2
  go_loopw [7] (fun i wr => ∃ k : Nat, k ≤ 16 ∧ i = .int .i64 k ∧ Below w.heap.size w wr ∧ Blk wr w.heap.size (bytesV (mk 16 fun i => if i < k then addK ks b 0 i else b i)) 40 ∧ Blk wr (w.heap.size + 1) (bytesV (zeros 16)) 40) (fun i _ => 16 - (intOf i).toNat)
  case atStart => exact ⟨0, by omega, rfl, ((Below.refl _ _).alloc (Nat.le_refl _) _).alloc (by simp) _, (Blk.new _ _ _).alloc _, Blk.new' (by simp) _ _⟩
  case round =>
    obtain ⟨k, hk, rfl, hbel, h1, h2⟩ := hrel
    by_cases hlt : k < 16
    · obtain ⟨gv, cv, hc1, hc2, hc3, hc4⟩ := HRD.out 0 wr (by omega) hbel
      have c4 := hc4 k hlt
      rw [Nat.mul_zero, Nat.zero_add] at c4
      have c1 := h1.byte k (by rw [mk_length]; exact hlt)
      rw [mk_get hlt, if_neg (Nat.lt_irrefl k)] at c1
      have f1 := h1.free k
      have HB := Lib.hid hbel; clear hbel hc4
      have H1 := Lib.hid h1; clear h1
      have H2 := Lib.hid h2; clear h2
      go_wp2
      refine wp_region_text 12 (by kernel_rfl) (by kernel_rfl) (by kernel_rfl) (by kernel_rfl) fun K hK => ?_
      simp only [List.take_succ_cons, List.take_zero]
      go_wp2
      refine hK _ _ ⟨by rfl, ?_⟩
      clear hK K
      simp only [List.drop_succ_cons, List.drop_zero]
      go_wp2
      go_roundw
      case rel =>
        refine ⟨k + 1, by omega, by go_num, (HB.out.setCell (Nat.le_refl _) _).drew, ?_, (H2.out.set_ne (by omega) _ _ _).drew⟩
        have h := H1.out.setByte k (addK ks b 0 k)
        rw [mk_step] at h
        have e : xr (b k) (ks k) = addK ks b 0 k := by unfold xr addK; rw [Nat.mul_zero, Nat.zero_add]
        rw [e]
        exact h.drew
      case measure => simp [intOf]; omega
    · obtain rfl : k = 16 := by omega
      rw [mk_congr (g := addK ks b 0) fun i hi => if_pos hi] at h1
      have HB := Lib.hid hbel; clear hbel
      have H1 := Lib.hid h1; clear h1
      have H2 := Lib.hid h2; clear h2
      go_wp2
      obtain ⟨wo, rfl⟩ : ∃ wo : World, wo = wr := ⟨_, rfl⟩
      go_loopw [8] (fun vr wr => ∃ q : Nat, q ≤ R ∧ vr = .int .i64 ((q : Int) + 1) ∧ Below w.heap.size w wr ∧ Blk wr w.heap.size (bytesV (mk 16 (if q < R then blk ks b q else enc ks b R))) 40 ∧ Blk wr (w.heap.size + 1) (bytesV (zeros 16)) 40) (fun r _ => R + 1 - (intOf r).toNat)
      case atStart => exact ⟨0, by omega, rfl, HB.out, by rw [if_pos (by omega)]; exact H1.out, H2.out⟩
      case round =>
        obtain ⟨q, hq, rfl, hbel, h1, h2⟩ := hrel
        clear HB H1 H2
        have HB := Lib.hid hbel; clear hbel
        have H2 := Lib.hid h2; clear h2
        have hsz := H2.out.lt
        by_cases hlt : q < R
        · rw [if_pos hlt] at h1
          have H1 := Lib.hid h1; clear h1
          have hd : decide ((q : Int) + 1 < (R : Int) + 1) = true := decide_eq_true (by omega)
          go_wp2
          obtain ⟨wq, rfl⟩ : ∃ wq : World, wq = wr := ⟨_, rfl⟩
          go_loopw [10] (fun vc wr => ∃ c : Nat, c ≤ 4 ∧ vc = .int .i64 c ∧ Below wq.heap.size wq wr ∧ Blk wr wq.heap.size (bytesV (mk 16 fun j => if j < 4 * c then mvd (blk ks b q) j else 0)) 40) (fun c _ => 4 - (intOf c).toNat)
          case atStart => exact ⟨0, by omega, rfl, (Below.refl _ _).alloc (Nat.le_refl _) _, Blk.new _ _ _⟩
          case round =>
            obtain ⟨c, hc, rfl, hbc, h3⟩ := hrel
            have HBC := Lib.hid hbc; clear hbc
            have H3 := Lib.hid h3; clear h3
            by_cases hltc : c < 4
            · have hdc : decide ((c : Int) < 4) = true := decide_eq_true (by omega)
              go_wp2
              obtain ⟨wp, rfl⟩ : ∃ wp : World, wp = wr := ⟨_, rfl⟩
              go_loopw [11] (fun vi wr => ∃ k : Nat, k ≤ 4 ∧ vi = .int .i64 k ∧ Below wq.heap.size wq wr ∧ Blk wr wq.heap.size (bytesV (mk 16 fun j => if j < 4 * c + k then mvd (blk ks b q) j else 0)) 40) (fun k _ => 4 - (intOf k).toNat)
              case atStart => exact ⟨0, by omega, rfl, HBC.out, H3.out⟩
              case round =>
                obtain ⟨k, hk, rfl, hbk, h4⟩ := hrel
                by_cases hltk : k < 4
                · have c3 := h4.byte (4 * c + k) (by rw [mk_length]; omega)
                  have f3 := h4.free (4 * c + k)
                  have c1 : wr.cell? ⟨w.heap.size, 4 * ((c + k) % 4) + k, none⟩ = some (.int .u8 ((blk ks b q (4 * ((c + k) % 4) + k)).toNat : Int)) := by
                    have h := (H1.out.below hbk (by omega)).byte (4 * ((c + k) % 4) + k) (by rw [mk_length]; omega)
                    rwa [mk_get (by omega)] at h
                  have c2 : wr.cell? ⟨bb, ob + (blk ks b q (4 * ((c + k) % 4) + k)).toNat, none⟩ = some (.int .u8 ((bx (blk ks b q (4 * ((c + k) % 4) + k))).toNat : Int)) := by
                    rw [hbk.cell (by show bb < _; omega), HB.out.cell hbblt, HBX.out]
                  have hu := (blk ks b q (4 * ((c + k) % 4) + k)).toNat_lt
                  have HBK := Lib.hid hbk; clear hbk
                  have H4 := Lib.hid h4; clear h4
                  go_wp2
                  go_roundw
                  case rel =>
                    refine ⟨k + 1, by omega, by go_num, HBK.out.setCell (Nat.le_refl _) _, ?_⟩
                    have h := H4.out.setByte (4 * c + k) (mvd (blk ks b q) (4 * c + k))
                    rw [mk_step] at h
                    have e : bx (blk ks b q (4 * ((c + k) % 4) + k)) = mvd (blk ks b q) (4 * c + k) := by
                      unfold mvd; rw [show (4 * c + k) / 4 = c by omega, show (4 * c + k) % 4 = k by omega]
                    rw [e]
                    exact h
                  case measure => simp [intOf]; omega
                · obtain rfl : k = 4 := by omega
                  go_wp2
                  go_roundw
                  case rel => exact ⟨c + 1, by omega, by go_num, hbk, h4⟩
                  case measure => simp [intOf]; omega
            · obtain rfl : c = 4 := by omega
              rw [mk_congr (g := mvd (blk ks b q)) fun i hi => if_pos (by omega)] at H3
              obtain ⟨ma, hma⟩ : ∃ ma : Nat → UInt8, ma = if q + 1 < R then mxd (mvd (blk ks b q)) else mvd (blk ks b q) := ⟨_, rfl⟩
              have HMA := Lib.hid hma; clear hma
              go_upto_if 64 with (fail)
              go_cut [] (fun wc => Below wq.heap.size wq wc ∧ Blk wc wq.heap.size (bytesV (mk 16 ma)) 40)
              case first =>
                by_cases hqR : q + 1 < R
                · have hd3 : decide ((q : Int) + 1 < (R : Int)) = true := decide_eq_true (by omega)
                  go_wp2_with (refine wpList_loadR rfl _ _ rfl wq.heap.size _ rfl _ H3.out (by kernel_rfl) 16 (by kernel_rfl) (by rw [bytesV_size, mk_length]) ?_)
                  refine (mixed12_any _ _).mono ?_
                  rintro e w1 ⟨rfl, hb1⟩
                  have H3' := Lib.hid (H3.out.below hb1 H3.out.lt)
                  have HB1 := Lib.hid (HBC.out.trans (hb1.mono HBC.out.size)); clear hb1
                  go_wp2_with (refine wpList_storeR rfl _ _ _ rfl wq.heap.size _ _ rfl rfl _ H3'.out 16 (by kernel_rfl) (by rw [bytesV_size, mk_length]) (by rw [bytesV_size, mk_length]) (bytesV_one _) ?_)
                  go_meet
                  case rel =>
                    rw [HMA.out, if_pos hqR]
                    exact ⟨Below.row HB1.out (Nat.le_refl _) _, H3'.out.row _⟩
                · have hd3 : decide ((q : Int) + 1 < (R : Int)) = false := decide_eq_false (by omega)
                  go_wp2
                  go_meet
                  case rel =>
                    rw [HMA.out, if_neg hqR]
                    exact ⟨HBC.out, H3.out⟩
              case rest =>
                obtain ⟨hbc, h3⟩ := hcut
                clear HBC H3
                go_wp2
                go_loopw [12] (fun vi wr => ∃ k : Nat, k ≤ 16 ∧ vi = .int .i64 k ∧ Below w.heap.size w wr ∧ Blk wr w.heap.size (bytesV (mk 16 fun i => if i < k then addK ks ma (q + 1) i else blk ks b q i)) 40 ∧ Blk wr (w.heap.size + 1) (bytesV (zeros 16)) 40 ∧ Blk wr wq.heap.size (bytesV (mk 16 ma)) 40) (fun i _ => 16 - (intOf i).toNat)
                case atStart => exact ⟨0, by omega, rfl, HB.out.trans (hbc.mono HB.out.size), by rw [mk_congr (g := blk ks b q) fun i _ => if_neg (by omega)]; exact H1.out.below hbc (by omega), H2.out.below hbc hsz, h3⟩
                case round =>
                  obtain ⟨k, hk, rfl, hbk, h1, h2, h3⟩ := hrel
                  by_cases hltk : k < 16
                  · obtain ⟨gv, cv, hc1, hc2, hc3, hc4⟩ := HRD.out (q + 1) wr (by omega) hbk
                    have c4 := hc4 k hltk
                    have c1 := h3.byte k (by rw [mk_length]; exact hltk)
                    rw [mk_get hltk] at c1
                    have c5 := h1.byte k (by rw [mk_length]; exact hltk)
                    have f1 := h1.free k
                    have HBK := Lib.hid hbk; clear hbk hc4
                    have K1 := Lib.hid h1; clear h1
                    have K2 := Lib.hid h2; clear h2
                    have K3 := Lib.hid h3; clear h3
                    go_wp2
                    refine wp_region_text 13 (by kernel_rfl) (by kernel_rfl) (by kernel_rfl) (by kernel_rfl) fun K hK => ?_
                    simp only [List.take_succ_cons, List.take_zero]
                    go_wp2
                    refine hK _ _ ⟨by rfl, ?_⟩
                    clear hK K
                    simp only [List.drop_succ_cons, List.drop_zero]
                    go_wp2
                    go_roundw
                    case rel =>
                      refine ⟨k + 1, by omega, by go_num, (HBK.out.setCell (Nat.le_refl _) _).drew, ?_, (K2.out.set_ne (by omega) _ _ _).drew, (K3.out.set_ne (by omega) _ _ _).drew⟩
                      have h := K1.out.setByte k (addK ks ma (q + 1) k)
                      rw [mk_step] at h
                      exact h.drew
                    case measure => simp [intOf]; omega
                  · obtain rfl : k = 16 := by omega
                    have e : (mk 16 fun i => if i < 16 then addK ks ma (q + 1) i else blk ks b q i) = mk 16 (if q + 1 < R then blk ks b (q + 1) else enc ks b R) := by
                      rw [mk_congr (g := addK ks ma (q + 1)) fun i hi => if_pos hi, HMA.out]
                      by_cases hqR : q + 1 < R
                      · rw [if_pos hqR, if_pos hqR]; rfl
                      · rw [if_neg hqR, if_neg hqR, show R = q + 1 by omega]; rfl
                    rw [e] at h1
                    clear e
                    go_wp2
                    go_roundw
                    case rel => exact ⟨q + 1, by omega, by go_num, hbk, h1, h2⟩
                    case measure => simp [intOf]; omega
        · obtain rfl : q = R := by omega
          rw [if_neg (Nat.lt_irrefl q)] at h1
          have H1 := Lib.hid h1; clear h1
          have hd : decide ((q : Int) + 1 < (q : Int) + 1) = false := decide_eq_false (by omega)
          go_wp2_with (first
            | (refine wpList_loadR rfl _ _ rfl w.heap.size _ rfl _ H1.out (by kernel_rfl) 16 (by kernel_rfl) (by rw [bytesV_size, mk_length]) ?_)
            | (refine wpList_storeR rfl _ _ _ rfl (w.heap.size + 1) _ _ rfl rfl _ H2.out 16 (by kernel_rfl) (by rw [bytesV_size, mk_length]) (by rw [bytesV_size, zeros_length]) (bytesV_one _) ?_))
          exact ret_row rfl (w.heap.size + 1) _ _ rfl (H2.out.row _) (by kernel_rfl) 16 (by kernel_rfl) (by rw [bytesV_size, mk_length]) rfl ⟨rfl, Below.row HB.out (by omega) _⟩
end Go.Proofs.Ytnbjpilanjngmaa.XS
