/- The walks over package digest, first part: words, turns, a block's words. -/
import Derived.Test.YtnbjpilanjngmaaSha
import Derived.Test.YtnbjpilanjngmaaReg2
import Derived.Test.YtnbjpilanjngmaaRows
namespace Go.Proofs.Ytnbjpilanjngmaa.XS
open Go Go.RowKit

theorem wraps_u32 (n : Int) (h₀ : 0 ≤ n) (h₁ : n < 2 ^ 32) : IntKind.u32.wrap n = n := by rw [IntKind.wrap_u32]; omega
theorem bits_xw (x y : UInt32) : bits .xor .u32 (x.toNat : Int) (y.toNat : Int) = ((xw x y).toNat : Int) := by
  rw [bits_nat_xor .u32 32 (by decide) wraps_u32 _ _ x.toNat_lt y.toNat_lt]; unfold xw; rw [UInt32.toNat_xor]
theorem bits_nw (x y : UInt32) : bits .and .u32 (x.toNat : Int) (y.toNat : Int) = ((nw x y).toNat : Int) := by
  rw [(bits_nat .u32 32 (by decide) wraps_u32 _ _ x.toNat_lt y.toNat_lt).1]; unfold nw; rw [UInt32.toNat_and]
theorem bits_ow (x y : UInt32) : bits .or .u32 (x.toNat : Int) (y.toNat : Int) = ((ow x y).toNat : Int) := by
  rw [(bits_nat .u32 32 (by decide) wraps_u32 _ _ x.toNat_lt y.toNat_lt).2]; unfold ow; rw [UInt32.toNat_or]
theorem bits_cw (x : UInt32) : bits .xor .u32 IntKind.u32.max (x.toNat : Int) = ((cw x).toNat : Int) := by
  have h := bits_nat_xor .u32 32 (by decide) wraps_u32 4294967295 x.toNat (by decide) x.toNat_lt
  unfold cw; rw [UInt32.toNat_xor]; exact h
theorem add_aw (x y : UInt32) : ((x.toNat : Int) + (y.toNat : Int)) % 4294967296 = ((aw x y).toNat : Int) := by
  unfold aw; rw [UInt32.toNat_add]; omega
theorem or_lt {n a b : Nat} (ha : a < 2 ^ n) (hb : b < 2 ^ n) : a ||| b < 2 ^ n := Nat.or_lt_two_pow ha hb
theorem rot_bits (x : UInt32) (k : Nat) (hk : 0 < k ∧ k < 32) : bits .or .u32 ((x.toNat : Int) * 2 ^ k % 4294967296) ((x.toNat : Int) / 2 ^ (32 - k)) = ((rot x k).toNat : Int) := by
  have hx := x.toNat_lt
  have e1 : (x.toNat : Int) * 2 ^ k % 4294967296 = (((x.toNat <<< k) % 4294967296 : Nat) : Int) := by rw [Nat.shiftLeft_eq]; simp
  have e2 : (x.toNat : Int) / 2 ^ (32 - k) = ((x.toNat >>> (32 - k) : Nat) : Int) := by rw [Nat.shiftRight_eq_div_pow]; simp
  have l1 : (x.toNat <<< k) % 4294967296 < 2 ^ 32 := Nat.mod_lt _ (by decide)
  have l2 : x.toNat >>> (32 - k) < 2 ^ 32 := Nat.lt_of_le_of_lt (by rw [Nat.shiftRight_eq_div_pow]; exact Nat.div_le_self _ _) hx
  rw [e1, e2, (bits_nat .u32 32 (by decide) wraps_u32 _ _ l1 l2).2]
  unfold rot
  rw [UInt32.toNat_ofNat', Nat.mod_eq_of_lt (or_lt l1 l2)]
theorem sh8_bits (x : UInt32) (b : UInt8) : bits .or .u32 ((x.toNat : Int) * 256 % 4294967296) (b.toNat : Int) = ((sh8 x b).toNat : Int) := by
  have hb := b.toNat_lt
  have e1 : (x.toNat : Int) * 256 % 4294967296 = ((x.toNat * 256 % 4294967296 : Nat) : Int) := by simp
  have l1 : x.toNat * 256 % 4294967296 < 2 ^ 32 := Nat.mod_lt _ (by decide)
  have l2 : b.toNat < 2 ^ 32 := by omega
  rw [e1, (bits_nat .u32 32 (by decide) wraps_u32 _ _ l1 l2).2]
  unfold sh8
  rw [UInt32.toNat_ofNat', Nat.mod_eq_of_lt (or_lt l1 l2)]

set_option maxHeartbeats 1000000 in
theorem rot_any (x : UInt32) (k : Nat) (hk : 0 < k ∧ k < 32) (w : World) :
    Calls Try.prog 60 #[.int .u32 (x.toNat : Int), .int .i64 (k : Int)] w fun e w' => e = .returned (.int .u32 ((rot x k).toNat : Int)) ∧ w = w' := by
  have hs : bits .and .u64 (k : Int) 31 = (k : Int) := by
    have h := (bits_nat .u64 32 (by decide) (fun n h0 h1 => by rw [IntKind.wrap_u64]; omega) k 31 (by omega) (by decide)).1
    refine Eq.trans h ?_
    congr 1
    exact (by decide : ∀ k : Fin 32, k.val &&& 31 = k.val) ⟨k, hk.2⟩
  have hr := Lib.hid (rot_bits x k hk)
  go_enter Try.func60, Try.ntmps60
  go_wp2
  go_ret
  rw [← hr.out]
  exact ⟨rfl, rfl⟩
theorem u8_mod (b : UInt8) : (b.toNat : Int) % 4294967296 = (b.toNat : Int) := by have := b.toNat_lt; omega
theorem blk_setW {w : World} {b n : Nat} {f : Nat → UInt32} {E : TypeId} (h : Blk w b (wordsV n f) E) (k : Nat) (x : UInt32) : Blk (w.setCell ⟨b, k, none⟩ (.int .u32 (x.toNat : Int))) b (wordsV n fun i => if i = k then x else f i) E := by
  rw [← wordsV_set]; exact h.set k _
attribute [local go_sem] bits_xw bits_nw bits_ow bits_cw u8_mod sh8_bits
set_option maxHeartbeats 1000000 in
theorem mix_any (t : Nat) (b c d : UInt32) (w : World) :
    Calls Try.prog 59 #[.int .i64 (t : Int), .int .u32 (b.toNat : Int), .int .u32 (c.toNat : Int), .int .u32 (d.toNat : Int)] w fun e w' => e = .returned (.tuple #[.int .u32 ((fF t b c d).toNat : Int), .int .u32 ((fK t).toNat : Int)]) ∧ w = w' := by
  by_cases h1 : t < 20
  · have H : Hid ((fF t b c d = ow (nw b c) (nw (cw b) d)) ∧ fK t = 0x5a827999) := Lib.hid ⟨by unfold fF; rw [if_pos h1], by unfold fK; rw [if_pos h1]⟩
    go_enter Try.func59, Try.ntmps59
    go_wp2
    go_ret2
    rw [H.out.1, H.out.2]
    exact ⟨rfl, rfl⟩
  · by_cases h2 : t < 40
    · have H : Hid ((fF t b c d = xw (xw b c) d) ∧ fK t = 0x6ed9eba1) := Lib.hid ⟨by unfold fF; rw [if_neg h1, if_pos h2], by unfold fK; rw [if_neg h1, if_pos h2]⟩
      go_enter Try.func59, Try.ntmps59
      go_wp2
      go_ret2
      rw [H.out.1, H.out.2]
      exact ⟨rfl, rfl⟩
    · by_cases h3 : t < 60
      · have H : Hid ((fF t b c d = ow (ow (nw b c) (nw b d)) (nw c d)) ∧ fK t = 0x8f1bbcdc) := Lib.hid ⟨by unfold fF; rw [if_neg h1, if_neg h2, if_pos h3], by unfold fK; rw [if_neg h1, if_neg h2, if_pos h3]⟩
        go_enter Try.func59, Try.ntmps59
        go_wp2
        go_ret2
        rw [H.out.1, H.out.2]
        exact ⟨rfl, rfl⟩
      · have H : Hid ((fF t b c d = xw (xw b c) d) ∧ fK t = 0xca62c1d6) := Lib.hid ⟨by unfold fF; rw [if_neg h1, if_neg h2, if_neg h3], by unfold fK; rw [if_neg h1, if_neg h2, if_neg h3]⟩
        go_enter Try.func59, Try.ntmps59
        go_wp2
        go_ret2
        rw [H.out.1, H.out.2]
        exact ⟨rfl, rfl⟩

set_option maxHeartbeats 1000000 in
set_option maxRecDepth 100000 in
theorem words_any (hb : Nat) (wt : Nat → UInt8) (w : World) (hlt : hb < w.heap.size) (hc : ∀ j, j < 64 → w.cell? ⟨hb, 5 + j, none⟩ = some (.int .u8 ((wt j).toNat : Int))) :
    Calls Try.prog 58 #[.pointer (some ⟨hb, 5, none⟩)] w fun e w' => e = .returned (.agg (wordsV 80 (wd wt))) ∧ Below w.heap.size w w' := by
  have hz : ∀ w : World, (zeroValue 90).run Try.prog w = .ok (.agg (wordsV 80 fun _ => 0)) w := fun w => by kernel_rfl
  have HC := Lib.hid hc; clear hc
  go_enter Try.func58, Try.ntmps58
  go_wp2
  go_loopw [7] (fun i wr => ∃ k : Nat, k ≤ 16 ∧ i = .int .i64 k ∧ Below w.heap.size w wr ∧ Blk wr w.heap.size (wordsV 80 fun _ => 0) 90 ∧ Blk wr (w.heap.size + 1) (wordsV 80 fun i => if i < k then wd wt i else 0) 90) (fun i _ => 16 - (intOf i).toNat)
  case atStart => exact ⟨0, by omega, rfl, ((Below.refl _ _).alloc (Nat.le_refl _) _).alloc (by simp) _, (Blk.new _ _ _).alloc _, Blk.new' (by simp) _ _⟩
  case round =>
    obtain ⟨k, hk, rfl, hbel, h1, h2⟩ := hrel
    have HB := Lib.hid hbel; clear hbel
    have H1 := Lib.hid h1; clear h1
    by_cases hlt2 : k < 16
    · go_wp2
      obtain ⟨wo, rfl⟩ : ∃ wo : World, wo = wr := ⟨_, rfl⟩
      go_loopw [10] (fun i wr => ∃ q : Nat, q ≤ 4 ∧ i = .int .i64 q ∧ Below w.heap.size w wr ∧ Blk wr w.heap.size (wordsV 80 fun _ => 0) 90 ∧ Blk wr (w.heap.size + 1) (wordsV 80 fun i => if i = k then be4 (fun j => wt (4 * k + j)) q else if i < k then wd wt i else 0) 90) (fun i _ => 4 - (intOf i).toNat)
      case atStart =>
        refine ⟨0, by omega, rfl, HB.out, H1.out, ?_⟩
        rw [wordsV_congr (g := fun i => if i < k then wd wt i else 0) fun i _ => by by_cases h : i = k; · subst h; simp [be4]
                                                                                    · rw [if_neg h]]
        exact h2
      case round =>
        clear h2
        obtain ⟨q, hq, rfl, hbel, h1, h2⟩ := hrel
        have H2 := Lib.hid h2
        have HB := Lib.hid hbel; clear hbel
        have H1 := Lib.hid h1; clear h1
        by_cases hltq : q < 4
        · have c1 : wr.cell? ⟨hb, 5 + (4 * k + q), none⟩ = some (.int .u8 ((wt (4 * k + q)).toNat : Int)) := (HB.out.cell (p := ⟨hb, 5 + (4 * k + q), none⟩) hlt).trans (HC.out _ (by omega))
          have c2 : wr.cell? ⟨w.heap.size + 1, k, none⟩ = some (.int .u32 ((be4 (fun j => wt (4 * k + j)) q).toNat : Int)) := by
            refine h2.cell ?_
            rw [wordsV_get (by omega), if_pos rfl]
          have f2 := h2.free k
          clear h2
          go_wp2
          refine wp_region_text 16 (by kernel_rfl) (by kernel_rfl) (by kernel_rfl) (by kernel_rfl) fun K hK => ?_
          simp only [List.take_succ_cons, List.take_zero]
          go_wp2
          refine hK _ _ ⟨by rfl, ?_⟩
          clear hK K
          simp only [List.drop_succ_cons, List.drop_zero]
          go_wp2
          go_roundw
          case rel =>
            refine ⟨q + 1, by omega, by go_num, (HB.out.setCell (by show w.heap.size ≤ w.heap.size + 1; omega) _).drew, (H1.out.set_ne (by omega) _ _ _).drew, ?_⟩
            have h := blk_setW H2.out k (be4 (fun j => wt (4 * k + j)) (q + 1))
            refine Eq.mp (congrArg (fun z => Blk _ _ z _) (wordsV_congr fun i _ => ?_)) h.drew
            by_cases h : i = k <;> simp [h]
          case measure => simp [intOf]; omega
        · obtain rfl : q = 4 := by omega
          clear H2
          go_wp2
          go_roundw
          case rel =>
            refine ⟨k + 1, by omega, by go_num, HB.out, H1.out, ?_⟩
            rw [wordsV_congr (g := fun i => if i < k + 1 then wd wt i else 0) fun i _ => by
              by_cases h : i = k
              · subst h; rw [if_pos rfl, if_pos (by omega), wd_low hlt2]
              · by_cases h' : i < k
                · rw [if_neg h, if_pos h', if_pos (by omega)]
                · rw [if_neg h, if_neg h', if_neg (by omega)]] at h2
            exact h2
          case measure => simp [intOf]; omega
    · have HK := Lib.hid (by omega : k = 16)
      go_wp2
      obtain ⟨wo, rfl⟩ : ∃ wo : World, wo = wr := ⟨_, rfl⟩
      go_loopw [6] (fun i wr => ∃ t : Nat, 16 ≤ t ∧ t ≤ 80 ∧ i = .int .i64 t ∧ Below w.heap.size w wr ∧ Blk wr w.heap.size (wordsV 80 fun _ => 0) 90 ∧ Blk wr (w.heap.size + 1) (wordsV 80 fun i => if i < t then wd wt i else 0) 90) (fun i _ => 80 - (intOf i).toNat)
      case atStart => exact ⟨16, by omega, by omega, rfl, HB.out, H1.out, by rw [HK.out] at h2; exact h2⟩
      case round =>
        clear h2 HB H1
        obtain ⟨t, ht1, ht2, rfl, hbel, h1, h2⟩ := hrel
        have HB := Lib.hid hbel; clear hbel
        have H1 := Lib.hid h1; clear h1
        by_cases hltt : t < 80
        · have cc : ∀ i, i < t → wr.cell? ⟨w.heap.size + 1, i, none⟩ = some (.int .u32 ((wd wt i).toNat : Int)) := fun i hi => by
            refine h2.cell ?_
            rw [wordsV_get (by omega), if_pos hi]
          have c3 := cc (t - 3) (by omega)
          have c8 := cc (t - 8) (by omega)
          have c14 := cc (t - 14) (by omega)
          have c16 := cc (t - 16) (by omega)
          have c0 : wr.cell? ⟨w.heap.size + 1, t, none⟩ = some (.int .u32 (((0 : UInt32)).toNat : Int)) := by
            refine h2.cell ?_
            rw [wordsV_get (by omega), if_neg (by omega)]
          have f0 := h2.free t
          have H2 := Lib.hid h2
          clear cc h2
          go_wp2
          refine wp_region_cls 22 (fun w' => w' = wr.drew) (by kernel_rfl) (by kernel_rfl) (by kernel_rfl) (by rfl) rfl ?_
          simp only [List.take_succ_cons, List.take_zero]
          refine quiet_segN 20 (by kernel_rfl) (by kernel_rfl) (by rfl) ⟨_, rfl⟩ ?_
          apply Exists.intro
          refine ⟨fun w' hC K hK => ?seg, ?next⟩
          case seg =>
            subst hC
            simp only [List.take_succ_cons, List.take_zero]
            go_wp2
            exact hK _ _ ⟨by rfl, rfl⟩
          case next =>
            simp only [List.drop_succ_cons, List.drop_zero]
            refine quiet_call rfl 60 #[.int .u32 ((xw (xw (xw (wd wt (t - 3)) (wd wt (t - 8))) (wd wt (t - 14))) (wd wt (t - 16))).toNat : Int), .int .i64 1] (fun w' => by kernel_rfl) (.int .u32 ((wd wt t).toNat : Int)) (fun w' hC => (rot_any _ 1 (by omega) w').mono fun e w2 h => ⟨by rw [wd_high ht1]; exact h.1, h.2 ▸ hC⟩) ?_
            refine quiet_segN 1 (by kernel_rfl) (by kernel_rfl) (by rfl) ⟨_, rfl⟩ ?_
            apply Exists.intro
            refine ⟨fun w' hC K hK => ?seg2, ?next2⟩
            case seg2 =>
              subst hC
              simp only [List.take_succ_cons, List.take_zero]
              go_wp2
              exact hK _ _ ⟨by rfl, rfl⟩
            case next2 =>
              simp only [List.drop_succ_cons, List.drop_zero]
              refine wpQuiet_nil ?_
              intro w' hC
              subst hC
              go_wp2
              go_roundw
              case rel =>
                refine ⟨t + 1, by omega, by omega, by go_num, (HB.out.setCell (by show w.heap.size ≤ w.heap.size + 1; omega) _).drew, (H1.out.set_ne (by omega) _ _ _).drew, ?_⟩
                have h := blk_setW H2.out t (wd wt t)
                refine Eq.mp (congrArg (fun z => Blk _ _ z _) (wordsV_congr fun i _ => ?_)) h.drew
                by_cases h : i = t
                · subst h; rw [if_pos rfl, if_pos (by omega)]
                · rw [if_neg h]
                  by_cases h' : i < t
                  · rw [if_pos h', if_pos (by omega)]
                  · rw [if_neg h', if_neg (by omega)]
              case measure => simp [intOf]; omega
        · obtain rfl : t = 80 := by omega
          rw [wordsV_congr (g := wd wt) fun i hi => if_pos hi] at h2
          have H2 := Lib.hid h2; clear h2
          go_wp2_with (first
            | (refine wpList_loadR rfl _ _ rfl (w.heap.size + 1) _ rfl _ H2.out (by kernel_rfl) 80 (by kernel_rfl) (by rw [wordsV_size]) ?_)
            | (refine wpList_storeR rfl _ _ _ rfl w.heap.size _ _ rfl rfl _ H1.out 80 (by kernel_rfl) (by rw [wordsV_size]) (by rw [wordsV_size]) (wordsV_one _ _) ?_))
          exact ret_row rfl w.heap.size _ _ rfl (H1.out.row _) (by kernel_rfl) 80 (by kernel_rfl) (by rw [wordsV_size]) rfl ⟨rfl, Below.row HB.out (Nat.le_refl _) _⟩
end Go.Proofs.Ytnbjpilanjngmaa.XS
