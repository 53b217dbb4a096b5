/- The walks over package digest, second part: a new one, a block taken in. -/
import Derived.Test.YtnbjpilanjngmaaDig1
import Derived.Test.YtnbjpilanjngmaaLib3
namespace Go.Proofs.Ytnbjpilanjngmaa.XS
open Go Go.RowKit
attribute [local go_sem] bits_xw bits_nw bits_ow bits_cw u8_mod sh8_bits add_aw

set_option maxHeartbeats 1000000 in
set_option maxRecDepth 100000 in
theorem dnew_any (w : World) :
    Calls Try.prog 49 #[] w fun e w' => e = .returned (.pointer (some ⟨w.heap.size, 0, none⟩)) ∧ Blk w' w.heap.size (hV s0 (fun _ => 0) 0 0) 68 ∧ Below w.heap.size w w' := by
  go_enter Try.func49, Try.ntmps49
  go_wp2_with (refine wpList_buildC rfl 68 _ rfl (hV s0 (fun _ => 0) 0 0) (by kernel_rfl) ?_)
  go_ret
  exact ⟨rfl, Blk.new _ _ _, (Below.refl _ _).alloc (Nat.le_refl _) _⟩
theorem rot_int (x : UInt32) (k : Int) (hk : 0 < k ∧ k < 32) (w : World) :
    Calls Try.prog 60 #[.int .u32 (x.toNat : Int), .int .i64 k] w fun e w' => e = .returned (.int .u32 ((rot x k.toNat).toNat : Int)) ∧ w = w' := by
  have h := rot_any x k.toNat (by omega) w
  rw [show ((k.toNat : Nat) : Int) = k by omega] at h
  exact h
set_option maxHeartbeats 1000000 in
set_option maxRecDepth 100000 in
theorem dblock_any (hb : Nat) (s : S5) (wt : Nat → UInt8) (many all : Nat) (w : World) (h : Blk w hb (hV s wt many all) 68) :
    Calls Try.prog 55 #[.pointer (some ⟨hb, 0, none⟩)] w fun e w' => e = .returned (.tuple #[]) ∧ Blk w' hb (hV (cmpr wt s) wt 0 all) 68 ∧ w.grownBy w' (some hb) := by
  have hlt := h.lt
  have hc : ∀ j, j < 64 → w.cell? ⟨hb, 5 + j, none⟩ = some (.int .u8 ((wt j).toNat : Int)) := fun j hj => by
    refine h.cell ?_
    rw [hV_get, if_neg (by omega), if_pos (by omega), Nat.add_sub_cancel_left]
  have HC := Lib.hid hc; clear hc
  have H := Lib.hid h; clear h
  have hz : ∀ w : World, (zeroValue 90).run Try.prog w = .ok (.agg (wordsV 80 fun _ => 0)) w := fun w => by kernel_rfl
  go_enter Try.func55, Try.ntmps55
  go_wp2_with fail
  refine (words_any hb wt _ hlt HC.out).mono ?_
  rintro e w1 ⟨rfl, hb1⟩
  have H1 := Lib.hid (H.out.below hb1 hlt)
  have HB := Lib.hid hb1; clear hb1
  have hs1 := HB.out.size
  have c0 : w1.cell? ⟨hb, 0, none⟩ = some (.int .u32 (s.a.toNat : Int)) := H1.out.cell (by rw [hV_get]; rfl)
  have c1 : w1.cell? ⟨hb, 1, none⟩ = some (.int .u32 (s.b.toNat : Int)) := H1.out.cell (by rw [hV_get]; rfl)
  have c2 : w1.cell? ⟨hb, 2, none⟩ = some (.int .u32 (s.c.toNat : Int)) := H1.out.cell (by rw [hV_get]; rfl)
  have c3 : w1.cell? ⟨hb, 3, none⟩ = some (.int .u32 (s.d.toNat : Int)) := H1.out.cell (by rw [hV_get]; rfl)
  have c4 : w1.cell? ⟨hb, 4, none⟩ = some (.int .u32 (s.e.toNat : Int)) := H1.out.cell (by rw [hV_get]; rfl)
  go_upto_region 4 with (refine wpList_storeO rfl _ _ _ rfl w1.heap.size _ _ rfl rfl _ (Blk.new _ _ _) 80 (by kernel_rfl) (by rw [wordsV_size]) (by rw [wordsV_size]) (wordsV_one _ _) ?_; intro w2 ho2 hb2)
  have HB2 := Lib.hid (ho2.below (HB.out.alloc HB.out.size (Obj.cells (wordsV 80 fun _ => 0) 90)) HB.out.size)
  have H2 := Lib.hid (H1.out.below (ho2.below ((Below.refl w1.heap.size w1).alloc (Nat.le_refl _) (Obj.cells (wordsV 80 fun _ => 0) 90)) (Nat.le_refl _)) (by omega))
  have HW := Lib.hid hb2; clear hb2 ho2 c0 c1 c2 c3 c4
  have c0 : w2.cell? ⟨hb, 0, none⟩ = some (.int .u32 (s.a.toNat : Int)) := H2.out.cell (by rw [hV_get]; rfl)
  have c1 : w2.cell? ⟨hb, 1, none⟩ = some (.int .u32 (s.b.toNat : Int)) := H2.out.cell (by rw [hV_get]; rfl)
  have c2 : w2.cell? ⟨hb, 2, none⟩ = some (.int .u32 (s.c.toNat : Int)) := H2.out.cell (by rw [hV_get]; rfl)
  have c3 : w2.cell? ⟨hb, 3, none⟩ = some (.int .u32 (s.d.toNat : Int)) := H2.out.cell (by rw [hV_get]; rfl)
  have c4 : w2.cell? ⟨hb, 4, none⟩ = some (.int .u32 (s.e.toNat : Int)) := H2.out.cell (by rw [hV_get]; rfl)
  simp only [Act.put]
  refine wp_region_reads (by kernel_rfl) (by kernel_rfl) (by kernel_rfl) (by kernel_rfl) fun K hK => ?_
  go_wp2
  refine hK _ _ ⟨by rfl, ?_⟩
  clear hK K c0 c1 c2 c3 c4
  go_wp2_with (refine wpList_loadR rfl _ _ rfl w1.heap.size _ rfl _ (Blk.drew HW.out) (by kernel_rfl) 80 (by kernel_rfl) (by rw [wordsV_size]) ?_)
  go_loop [3, 4, 5, 6, 7, 45] (fun va vb vc vd ve vt => ∃ t : Nat, t ≤ 80 ∧ vt = .int .i64 t ∧ va = .int .u32 ((rnds wt s t).a.toNat : Int) ∧ vb = .int .u32 ((rnds wt s t).b.toNat : Int) ∧ vc = .int .u32 ((rnds wt s t).c.toNat : Int) ∧ vd = .int .u32 ((rnds wt s t).d.toNat : Int) ∧ ve = .int .u32 ((rnds wt s t).e.toNat : Int)) (fun _ _ _ _ _ t => 80 - (intOf t).toNat)
  case atStart => exact ⟨0, by omega, rfl, rfl, rfl, rfl, rfl, rfl⟩
  case round =>
    obtain ⟨t, ht, rfl, rfl, rfl, rfl, rfl, rfl⟩ := hrel
    by_cases hlt2 : t < 80
    · go_wp2_with (first
        | (refine wpList_indexA rfl _ _ _ rfl (wordsV 80 (wd wt)) rfl .i64 (t : Int) rfl 80 64 (by kernel_rfl) (by kernel_rfl) (by omega) (by omega) (.int .u32 ((wd wt t).toNat : Int)) (by rw [Int.toNat_natCast]; exact wordsV_get hlt2) ?_)
        | (go_at_call 59; refine (mix_any t _ _ _ _).mono ?_; rintro e w3 ⟨rfl, rfl⟩)
        | (go_at_call 60; refine (rot_int _ _ (by decide) _).mono ?_; rintro e w3 ⟨rfl, rfl⟩))
      go_round
      case rel => exact ⟨t + 1, by omega, by go_num, rfl, rfl, rfl, rfl, rfl⟩
      case measure => simp [intOf]; omega
    · have HT := Lib.hid (by omega : t = 80)
      obtain ⟨r, hr⟩ : ∃ r, r = rnds wt s t := ⟨_, rfl⟩
      have HR := Lib.hid hr
      rw [← hr]
      clear hr
      go_wp2_with (refine wpList_buildC rfl 65 _ rfl (wordsV 5 r.at) (by kernel_rfl) ?_)
      have HG := Lib.hid (G.drew (G.ofBelow (r := some hb) HB2.out (Nat.le_refl _)))
      have H2' := Lib.hid (Blk.drew H2.out)
      clear H2
      generalize w2.drew = w3 at *
      go_loopw [80] (fun vk wr => ∃ k : Nat, k ≤ 5 ∧ vk = .int .i64 k ∧ w.grownBy wr (some hb) ∧ Blk wr hb (hV (mixS s r k) wt many all) 68) (fun k _ => 5 - (intOf k).toNat)
      case atStart => exact ⟨0, by omega, rfl, HG.out, H2'.out⟩
      case round =>
        obtain ⟨k, hk, rfl, hg, h3⟩ := hrel
        have HG3 := Lib.hid hg; clear hg
        by_cases hlt3 : k < 5
        · have c0 : wr.cell? ⟨hb, k, none⟩ = some (.int .u32 ((s.at k).toNat : Int)) := h3.cell (by rw [hV_get, if_pos hlt3, mixS_at s r k hlt3])
          have f0 := h3.free k
          have H3 := Lib.hid h3; clear h3
          go_wp2_with (refine wpList_indexA rfl _ _ _ rfl (wordsV 5 r.at) rfl .i64 (k : Int) rfl 5 64 (by kernel_rfl) (by kernel_rfl) (by omega) (by omega) (.int .u32 ((r.at k).toNat : Int)) (by rw [Int.toNat_natCast]; exact wordsV_get hlt3) ?_)
          refine wp_region_text 11 (by kernel_rfl) (by kernel_rfl) (by kernel_rfl) (by kernel_rfl) fun K hK => ?_
          simp only [List.take_succ_cons, List.take_zero]
          go_wp2
          refine hK _ _ ⟨by rfl, ?_⟩
          clear hK K
          simp only [List.drop_succ_cons, List.drop_zero]
          go_wp2
          go_roundw
          case rel =>
            refine ⟨k + 1, by omega, by go_num, G.drew (G.setCell HG3.out _ _ _), ?_⟩
            have h := H3.out.set k (.int .u32 ((aw (s.at k) (r.at k)).toNat : Int))
            rw [hV_setS _ _ _ _ _ hlt3, mixS_step s r k hlt3] at h
            exact h.drew
          case measure => simp [intOf]; omega
        · have h4 : Blk wr hb (hV (cmpr wt s) wt many all) 68 := by
            rw [show k = 5 by omega, HR.out, HT.out, mixS_five] at h3
            exact h3
          have c0 : wr.cell? ⟨hb, 69, none⟩ = some (.int .i64 (many : Int)) := h4.cell (by rw [hV_get]; rfl)
          have f0 := h4.free 69
          have H4 := Lib.hid h4; clear h4 h3
          go_wp2
          refine bodyPost_end (results_none rfl _ _ _) rfl ⟨rfl, ?_, G.setCell HG3.out _ _ _⟩
          have h := H4.out.set 69 (.int .i64 ((0 : Nat) : Int))
          rw [hV_setMany] at h
          exact h
end Go.Proofs.Ytnbjpilanjngmaa.XS
