/- The walks over the reference of layer 10: a block, and the sum. -/
import Derived.Test.YtnbjpilanjngmaaRef10B
namespace Go.Proofs.Ytnbjpilanjngmaa.XS
open Go Go.RowKit
attribute [local go_sem] bits_xw bits_nw bits_ow bits_cw u8_mod sh8_bits add_aw

theorem blk_drewN {w : World} {b : Nat} {cs : Array Value} {E : TypeId} (h : Blk w b cs E) : ∀ n, Blk (w.drewN n) b cs E
  | 0 => h
  | n + 1 => (blk_drewN h n).drew
theorem drewN_drewN (w : World) (n : Nat) : ∀ m, (w.drewN n).drewN m = w.drewN (n + m)
  | 0 => rfl
  | m + 1 => by
    show ((w.drewN n).drewN m).drew = (w.drewN (n + m)).drew
    rw [drewN_drewN w n m]
theorem bits_cw' (x : UInt32) : bits .xor .u32 4294967295 (x.toNat : Int) = ((cw x).toNat : Int) := bits_cw x
attribute [local go_sem] bits_cw'
set_option maxHeartbeats 2000000 in
set_option maxRecDepth 100000 in
theorem block10_any (w : World) (s : S5) (g o cp : Nat) (hg : g < w.heap.size) (hcp : 64 ≤ cp) (hcp2 : cp ≤ 9223372036854775807) (f : Nat → UInt8) (hc : ∀ j, j < 64 → w.cell? ⟨g, o + j, none⟩ = some (.int .u8 ((f j).toNat : Int))) :
    Calls Try.prog 53 #[.agg (wordsV 5 s.at), .slice (some ⟨g, o, none⟩) 64 cp] w fun e w' => e = .returned (.agg (wordsV 5 (cmpr f s).at)) ∧ Below w.heap.size w w' := by
  have HC := Lib.hid hc; clear hc
  go_enter Try.func53, Try.ntmps53
  go_wp2_with fail
  have hb0 : Below w.heap.size w ((w.alloc (Obj.cells (wordsV 5 s.at) 65)).alloc (Obj.cells (wordsV 5 fun _ => 0) 65)) := (((Below.refl _ _).alloc (Nat.le_refl _) _).alloc (by simp) _)
  have k1 : Blk ((w.alloc (Obj.cells (wordsV 5 s.at) 65)).alloc (Obj.cells (wordsV 5 fun _ => 0) 65)) w.heap.size (wordsV 5 s.at) 65 := (Blk.new w _ _).alloc _
  have k2 : Blk ((w.alloc (Obj.cells (wordsV 5 s.at) 65)).alloc (Obj.cells (wordsV 5 fun _ => 0) 65)) (w.heap.size + 1) (wordsV 5 fun _ => 0) 65 := by
    have h := Blk.new (w.alloc (Obj.cells (wordsV 5 s.at) 65)) (wordsV 5 fun _ => 0) 65
    rwa [show (w.alloc (Obj.cells (wordsV 5 s.at) 65)).heap.size = w.heap.size + 1 by simp] at h
  refine (row10_any _ g o cp (by simp; omega) hcp hcp2 f (fun j hj => (hb0.cell (p := ⟨g, o + j, none⟩) hg).trans (HC.out j hj))).mono ?_
  rintro e w1 ⟨vw, rfl, ho, hb⟩
  have hsz : ((w.alloc (Obj.cells (wordsV 5 s.at) 65)).alloc (Obj.cells (wordsV 5 fun _ => 0) 65)).heap.size = w.heap.size + 2 := by simp
  have K1 := Lib.hid (k1.below hb (by omega))
  have K2 := Lib.hid (k2.below hb (by omega))
  have HB := Lib.hid (hb0.trans (hb.mono (by omega)))
  have ho' : OwnW w1 w.heap.size 64 vw 80 (wd f) := ⟨ho.1, ho.2.imp id fun ⟨g, cap, cur, h1, h2, h3⟩ => ⟨g, cap, cur, h1, by omega, h3⟩⟩
  obtain ⟨q, cq, rfl, hq1, hq2, hq3, hq4⟩ := ho'.form (by omega)
  have HO := Lib.hid ho'
  clear hb0 k1 k2 hb ho ho' hsz
  have c0 : w1.cell? ⟨w.heap.size, 0, none⟩ = some (.int .u32 (s.a.toNat : Int)) := K1.out.cell rfl
  have c1 : w1.cell? ⟨w.heap.size, 1, none⟩ = some (.int .u32 (s.b.toNat : Int)) := K1.out.cell rfl
  have c2 : w1.cell? ⟨w.heap.size, 2, none⟩ = some (.int .u32 (s.c.toNat : Int)) := K1.out.cell rfl
  have c3 : w1.cell? ⟨w.heap.size, 3, none⟩ = some (.int .u32 (s.d.toNat : Int)) := K1.out.cell rfl
  have c4 : w1.cell? ⟨w.heap.size, 4, none⟩ = some (.int .u32 (s.e.toNat : Int)) := K1.out.cell rfl
  go_wp2
  clear c0 c1 c2 c3 c4
  go_loopw [6, 7, 8, 9, 10, 11] (fun va vb vc vd ve vt wr => ∃ t : Nat, t ≤ 80 ∧ vt = .int .i64 t ∧ va = .int .u32 ((rnds f s t).a.toNat : Int) ∧ vb = .int .u32 ((rnds f s t).b.toNat : Int) ∧ vc = .int .u32 ((rnds f s t).c.toNat : Int) ∧ vd = .int .u32 ((rnds f s t).d.toNat : Int) ∧ ve = .int .u32 ((rnds f s t).e.toNat : Int) ∧ ∃ n, wr = w1.drewN n) (fun _ _ _ _ _ t _ => 80 - (intOf t).toNat)
  case atStart => exact ⟨0, by omega, rfl, rfl, rfl, rfl, rfl, rfl, 0, rfl⟩
  case round =>
    obtain ⟨t, ht, rfl, rfl, rfl, rfl, rfl, rfl, n, rfl⟩ := hrel
    by_cases hlt2 : t < 80
    · obtain ⟨r, hr⟩ : ∃ r, r = rnds f s t := ⟨_, rfl⟩
      have hnx : rnds f s (t + 1) = step t r (wd f t) := by rw [hr]; rfl
      have HNX := Lib.hid hnx; clear hnx
      rw [← hr]
      clear hr
      have hd0 : decide ((t : Int) < 80) = true := decide_eq_true (by omega)
      go_upto_if 37 with (fail)
      obtain ⟨F, hF⟩ : ∃ F, F = fF t r.b r.c r.d := ⟨_, rfl⟩
      obtain ⟨C, hC⟩ : ∃ C, C = fK t := ⟨_, rfl⟩
      have HF := Lib.hid hF
      have HKC := Lib.hid hC
      clear hF hC
      go_cut [12, 13] (fun v12 v13 wc => v12 = .int .u32 (F.toNat : Int) ∧ v13 = .int .u32 (C.toNat : Int) ∧ wc = w1.drewN n)
      case first =>
        rcases (by omega : t < 20 ∨ (20 ≤ t ∧ t < 40) ∨ (40 ≤ t ∧ t < 60) ∨ 60 ≤ t) with h | ⟨h1, h2⟩ | ⟨h1, h2⟩ | h
        · have d1 : decide ((t : Int) < 20) = true := decide_eq_true (by omega)
          go_wp2
          go_meet
          case rel => exact ⟨by rw [HF.out]; unfold fF; rw [if_pos (show t < 20 by omega)], by rw [HKC.out]; unfold fK; rw [if_pos (show t < 20 by omega)]; rfl, rfl⟩
        · have d1 : decide ((t : Int) < 20) = false := decide_eq_false (by omega)
          have d2 : decide ((t : Int) < 40) = true := decide_eq_true (by omega)
          go_wp2
          go_meet
          case rel => exact ⟨by rw [HF.out]; unfold fF; rw [if_neg (show ¬ t < 20 by omega), if_pos (show t < 40 by omega)], by rw [HKC.out]; unfold fK; rw [if_neg (show ¬ t < 20 by omega), if_pos (show t < 40 by omega)]; rfl, rfl⟩
        · have d1 : decide ((t : Int) < 20) = false := decide_eq_false (by omega)
          have d2 : decide ((t : Int) < 40) = false := decide_eq_false (by omega)
          have d3 : decide ((t : Int) < 60) = true := decide_eq_true (by omega)
          go_wp2
          go_meet
          case rel => exact ⟨by rw [HF.out]; unfold fF; rw [if_neg (show ¬ t < 20 by omega), if_neg (show ¬ t < 40 by omega), if_pos (show t < 60 by omega)], by rw [HKC.out]; unfold fK; rw [if_neg (show ¬ t < 20 by omega), if_neg (show ¬ t < 40 by omega), if_pos (show t < 60 by omega)]; rfl, rfl⟩
        · have d1 : decide ((t : Int) < 20) = false := decide_eq_false (by omega)
          have d2 : decide ((t : Int) < 40) = false := decide_eq_false (by omega)
          have d3 : decide ((t : Int) < 60) = false := decide_eq_false (by omega)
          go_wp2
          go_meet
          case rel => exact ⟨by rw [HF.out]; unfold fF; rw [if_neg (show ¬ t < 20 by omega), if_neg (show ¬ t < 40 by omega), if_neg (show ¬ t < 60 by omega)], by rw [HKC.out]; unfold fK; rw [if_neg (show ¬ t < 20 by omega), if_neg (show ¬ t < 40 by omega), if_neg (show ¬ t < 60 by omega)]; rfl, rfl⟩
      case rest =>
        obtain ⟨rfl, rfl, rfl⟩ := hcut
        have cw : w1.cell? ⟨q, t, none⟩ = some (.int .u32 ((wd f t).toNat : Int)) := HO.out.cell hlt2
        obtain ⟨W, hW⟩ : ∃ W, W = w1.drewN n := ⟨_, rfl⟩
        have HWW := Lib.hid hW
        have cw' : W.cell? ⟨q, t, none⟩ = some (.int .u32 ((wd f t).toNat : Int)) := by rw [hW]; simpa using cw
        rw [← hW]
        clear hW cw
        go_wp2
        refine wp_region_cls 13 (fun w' => ∃ n, w' = W.drewN n) (by kernel_rfl) (by kernel_rfl) (by kernel_rfl) (by rfl) ⟨1, rfl⟩ ?_
        simp only [List.take_succ_cons, List.take_zero]
        refine quiet_segN 1 (by kernel_rfl) (by kernel_rfl) (by rfl) ⟨_, ⟨1, rfl⟩⟩ ?_
        apply Exists.intro
        refine ⟨fun w' hC K hK => ?seg, ?next⟩
        case seg =>
          obtain ⟨n, rfl⟩ := hC
          simp only [List.take_succ_cons, List.take_zero]
          go_wp2
          exact hK _ _ ⟨by rfl, rfl⟩
        case next =>
          simp only [List.drop_succ_cons, List.drop_zero]
          refine quiet_call rfl 57 #[.int .u32 (r.a.toNat : Int), .int .i64 5] (fun w' => by kernel_rfl) (.int .u32 ((rot r.a 5).toNat : Int)) (fun w' hC => (left10_any _ 5 (by omega) w').mono fun e w2 h => ⟨h.1, by obtain ⟨n, rfl⟩ := hC; exact ⟨n + 1, h.2⟩⟩) ?_
          refine quiet_segN 11 (by kernel_rfl) (by kernel_rfl) (by rfl) ⟨_, ⟨1, rfl⟩⟩ ?_
          apply Exists.intro
          refine ⟨fun w' hC K hK => ?seg2, ?next2⟩
          case seg2 =>
            obtain ⟨n, rfl⟩ := hC
            simp only [List.take_succ_cons, List.take_zero]
            go_wp2
            exact hK _ _ ⟨by rfl, rfl⟩
          case next2 =>
            simp only [List.drop_succ_cons, List.drop_zero]
            refine wpQuiet_nil ?_
            rintro w' ⟨m, rfl⟩
            go_wp2_with (go_at_call 57; refine (left10_any _ 30 (by decide) _).mono ?_; rintro e w3 ⟨rfl, rfl⟩)
            go_roundw
            case rel => exact ⟨t + 1, by omega, by go_num, by rw [HNX.out, HF.out, HKC.out]; rfl, by rw [HNX.out]; rfl, by rw [HNX.out]; rfl, by rw [HNX.out]; rfl, by rw [HNX.out]; rfl, n + (m + 1), by rw [HWW.out, drewN_drewN]⟩
            case measure => simp [intOf]; omega
    · have HT := Lib.hid (by omega : t = 80)
      obtain ⟨r, hr⟩ : ∃ r, r = rnds f s t := ⟨_, rfl⟩
      have HR := Lib.hid hr
      rw [← hr]
      clear hr
      have hd0 : decide ((t : Int) < 80) = false := decide_eq_false (by omega)
      obtain ⟨W, hW⟩ : ∃ W, W = w1.drewN n := ⟨_, rfl⟩
      have K3 := Lib.hid (show Blk W w.heap.size (wordsV 5 s.at) 65 by rw [hW]; exact blk_drewN K1.out n)
      have K4 := Lib.hid (show Blk W (w.heap.size + 1) (wordsV 5 fun _ => 0) 65 by rw [hW]; exact blk_drewN K2.out n)
      have HB3 := Lib.hid (show Below w.heap.size w W by rw [hW]; exact post_drewN HB.out n)
      rw [← hW]
      clear hW
      have c0 : W.cell? ⟨w.heap.size, 0, none⟩ = some (.int .u32 (s.a.toNat : Int)) := K3.out.cell rfl
      have c1 : W.cell? ⟨w.heap.size, 1, none⟩ = some (.int .u32 (s.b.toNat : Int)) := K3.out.cell rfl
      have c2 : W.cell? ⟨w.heap.size, 2, none⟩ = some (.int .u32 (s.c.toNat : Int)) := K3.out.cell rfl
      have c3 : W.cell? ⟨w.heap.size, 3, none⟩ = some (.int .u32 (s.d.toNat : Int)) := K3.out.cell rfl
      have c4 : W.cell? ⟨w.heap.size, 4, none⟩ = some (.int .u32 (s.e.toNat : Int)) := K3.out.cell rfl
      have hcm : cmpr f s = ⟨aw s.a r.a, aw s.b r.b, aw s.c r.c, aw s.d r.d, aw s.e r.e⟩ := by unfold cmpr; rw [HR.out, HT.out]
      have HCM := Lib.hid hcm; clear hcm
      go_wp2_with (first
        | (refine wpList_buildC rfl 65 _ rfl (wordsV 5 (S5.mk (aw s.a r.a) (aw s.b r.b) (aw s.c r.c) (aw s.d r.d) (aw s.e r.e)).at) (by kernel_rfl) ?_)
        | (refine wpList_storeR rfl _ _ _ rfl (w.heap.size + 1) _ _ rfl rfl _ K4.out 5 (by kernel_rfl) (by rw [wordsV_size]) (by rw [wordsV_size]) (wordsV_one _ _) ?_))
      rw [HCM.out]
      exact ret_row rfl (w.heap.size + 1) (wordsV 5 (S5.mk (aw s.a r.a) (aw s.b r.b) (aw s.c r.c) (aw s.d r.d) (aw s.e r.e)).at) 65 rfl (K4.out.row _) (by kernel_rfl) 5 (by kernel_rfl) (wordsV_size _ _) rfl ⟨rfl, Below.row HB3.out (Nat.le_succ _) _⟩
end Go.Proofs.Ytnbjpilanjngmaa.XS
