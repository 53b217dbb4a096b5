/- The walks over package cipher, sixth part: the round keys. -/
import Derived.Test.YtnbjpilanjngmaaCipher5
namespace Go.Proofs.Ytnbjpilanjngmaa.XS
open Go Go.RowKit
attribute [local go_sem] bits_xr

set_option maxHeartbeats 1000000 in
theorem new_bad (w : World) (v : Value) (l : List UInt8) (hv : RdB w w.heap.size v l) (h16 : l.length ≠ 16) (h24 : l.length ≠ 24) (h32 : l.length ≠ 32) :
    Calls Try.prog 18 #[v] w fun e w' => e = .returned (.tuple #[.pointer none, .int .i64 120]) ∧ w = w' := by
  obtain ⟨base, cap, rfl, hc1, hc2, _, _⟩ := hv
  have b1 : ((l.length : Int) != 16) = true := by simp; omega
  have b2 : ((l.length : Int) != 24) = true := by simp; omega
  have b3 : ((l.length : Int) != 32) = true := by simp; omega
  clear h16 h24 h32
  go_enter Try.func18, Try.ntmps18
  go_wp2
  go_ret2
  exact ⟨rfl, rfl⟩

set_option maxHeartbeats 2000000 in
set_option maxRecDepth 100000 in
theorem new_ok (w : World) (v : Value) (l : List UInt8) (n : Nat) (hv : RdB w w.heap.size v l) (hl : l.length = 4 * n) (hn : n = 4 ∨ n = 6 ∨ n = 8) :
    Calls Try.prog 18 #[v] w fun e w' => ∃ kb, w.heap.size ≤ kb ∧ e = .returned (.tuple #[.pointer (some ⟨kb, 0, none⟩), .int .i64 0]) ∧ Blk w' kb (keyV (keyZ n fun i => l[i]?.getD 0) (n + 6)) 59 ∧ Below w.heap.size w w' := by
  obtain ⟨base, cap, rfl, hc1, hc2, _, h3⟩ := hv
  obtain ⟨b, o, rfl, hblt, hcell⟩ := h3 (by omega)
  have HC := Lib.hid hcell; clear hcell h3
  have b4 : (l.length : Int) / 4 = n := by omega
  have hl3 : l.length = 16 ∨ l.length = 24 ∨ l.length = 32 := by omega
  have HL := Lib.hid hl; clear hl
  go_enter Try.func18, Try.ntmps18
  go_upto_region 2 with (fail)
  go_cut [26] (fun t w' => t = .bool false ∧ w = w')
  case first =>
    rcases hl3 with h | h | h
    · have b1 : ((l.length : Int) != 16) = false := by rw [h]; rfl
      clear h
      go_wp2
      all_goals (go_meet; case rel => exact ⟨rfl, rfl⟩)
    · have b1 : ((l.length : Int) != 16) = true := by rw [h]; rfl
      have b2 : ((l.length : Int) != 24) = false := by rw [h]; rfl
      clear h
      go_wp2
      all_goals (go_meet; case rel => exact ⟨rfl, rfl⟩)
    · have b1 : ((l.length : Int) != 16) = true := by rw [h]; rfl
      have b2 : ((l.length : Int) != 24) = true := by rw [h]; rfl
      have b3 : ((l.length : Int) != 32) = false := by rw [h]; rfl
      clear h
      go_wp2
      all_goals (go_meet; case rel => exact ⟨rfl, rfl⟩)
  case rest =>
    obtain ⟨rfl, rfl⟩ := hcut
    have hz : ∀ w : World, (zeroValue 56).run Try.prog w = .ok (.agg (bytesV (zeros 4))) w := fun w => by kernel_rfl
    go_wp2_with (refine wpList_buildC rfl _ _ rfl (keyV (fun _ => 0) (n + 6)) (by kernel_rfl) ?_)
    go_loopw [32] (fun i wr => ∃ k : Nat, k ≤ n ∧ i = .int .i64 k ∧ Below w.heap.size w wr ∧ Blk wr w.heap.size (keyV (fun p => if p < 4 * k then keyS n (fun i => l[i]?.getD 0) p else 0) (n + 6)) 59) (fun i _ => n - (intOf i).toNat)
    case atStart => exact ⟨0, by omega, rfl, (Below.refl _ _).alloc (Nat.le_refl _) _, Blk.new _ _ _⟩
    case round =>
      obtain ⟨k, hk, rfl, hbel, h1⟩ := hrel
      have HB := Lib.hid hbel; clear hbel
      have H1 := Lib.hid h1; clear h1
      by_cases hlt : k < n
      · go_wp2
        refine wp_region_text 10 (by kernel_rfl) (by kernel_rfl) (by kernel_rfl) (by kernel_rfl) fun K hK => ?_
        simp only [List.take_succ_cons, List.take_zero]
        have hll := HL.out
        have hs1 : 4 * k ≤ l.length := by omega
        clear hll
        go_wp2
        refine hK _ _ ⟨by rfl, ?_⟩
        clear hK K
        simp only [List.drop_succ_cons, List.drop_zero]
        go_wp2_with (
          refine wpList_copyB rfl _ _ _ _ rfl 5 (by kernel_rfl) (by kernel_rfl) w.heap.size (k * 4) 4 4 b (o + 4 * k) _ _ rfl rfl _ _ H1.out.drew 4 (by have := HL.out; simp only [Nat.min_def]; split <;> omega) (fun j => l[4 * k + j]?.getD 0)
            (fun j hj => by have := HL.out; rw [show o + 4 * k + j = o + (4 * k + j) by omega]; exact (HB.out.drew.cell (p := ⟨b, o + (4 * k + j), none⟩) hblt).trans (HC.out _ (by omega)))
            (by have := HL.out; rw [keyV_size]; omega) (keyV (fun p => if p < 4 * (k + 1) then keyS n (fun i => l[i]?.getD 0) p else 0) (n + 6))
            (fun p => by
            have := HL.out
            rw [keyV_get, keyV_get]
            by_cases h : k * 4 ≤ p ∧ p < k * 4 + 4
            · rw [if_pos h, if_pos (by omega), if_pos (by omega), keyS_low (by omega), show 4 * k + (p - k * 4) = p by omega]
            · rw [if_neg h]
              by_cases h2 : p < 240
              · rw [if_pos h2, if_pos h2]
                by_cases h3 : p < 4 * k
                · rw [if_pos h3, if_pos (by omega)]
                · rw [if_neg h3, if_neg (by omega)]
              · rw [if_neg h2, if_neg h2]) ?_; intro w1 ho1 hb1)
        have HO := Lib.hid ho1; clear ho1
        have HB1 := Lib.hid hb1; clear hb1
        go_wp2
        go_roundw
        case rel => exact ⟨k + 1, by omega, by go_num, HO.out.below HB.out.drew (Nat.le_refl _), HB1.out⟩
        case measure => simp [intOf]; omega
      · obtain rfl : k = n := by omega
        go_wp2
        obtain ⟨wo, rfl⟩ : ∃ wo : World, wo = wr := ⟨_, rfl⟩
        go_loopw [7, 8] (fun vc vi wr => ∃ i : Nat, k ≤ i ∧ i ≤ 4 * (k + 7) ∧ vi = .int .i64 i ∧ vc = .int .u8 ((rcon ((i - 1) / k)).toNat : Int) ∧ Below w.heap.size w wr ∧ Blk wr w.heap.size (keyV (fun p => if p < 4 * i then keyS k (fun i => l[i]?.getD 0) p else 0) (k + 6)) 59) (fun _ i _ => 4 * (k + 7) - (intOf i).toNat)
        case atStart =>
          refine ⟨k, Nat.le_refl _, by omega, rfl, ?_, HB.out, H1.out⟩
          rw [show (k - 1) / k = 0 from Nat.div_eq_of_lt (by omega)]; rfl
        case round =>
          obtain ⟨i, hi1, hi2, rfl, rfl, hbel, h1⟩ := hrel
          clear HB H1
          have HB := Lib.hid hbel; clear hbel
          have H1 := Lib.hid h1; clear h1
          have c240 : wr.cell? ⟨w.heap.size, 240, none⟩ = some (.int .i64 ((k : Int) + 6)) := H1.out.cell (keyV_rounds _ _)
          by_cases hlt : i < 4 * (k + 7)
          · have hd : decide ((i : Int) < 4 * ((k : Int) + 6 + 1)) = true := decide_eq_true (by omega)
            have hsz := H1.out.lt
            go_upto_block 4 with (first
              | (refine wpList_loadAB rfl _ _ rfl w.heap.size ((i - 1) * 4) rfl (by kernel_rfl) 4 (by kernel_rfl) (kw k (fun i => l[i]?.getD 0) (i - 1)) (fun j hj => by
                  refine H1.out.cell ?_
                  rw [keyV_byte _ _ _ (by omega), if_pos (by omega), show (i - 1) * 4 + j = 4 * (i - 1) + j by omega, keyS_at hj]) ?_)
              | (refine wpList_storeO rfl _ _ _ rfl wr.heap.size _ _ rfl rfl _ (Blk.new _ _ _) 4 (by kernel_rfl) (by rw [bytesV_size, mk_length]) (by rw [bytesV_size, zeros_length]) (bytesV_one _) ?_; intro w1 ho1 hb1))
            have HB1 := Lib.hid (ho1.below (HB.out.alloc (by omega) _) (by omega))
            have HT := Lib.hid hb1; clear hb1
            have HK := Lib.hid (ho1.blk (H1.out.alloc _) (by omega))
            clear ho1
            have kc : ∀ j : Nat, j < 4 → (bytesV (mk 4 (kw k (fun i => l[i]?.getD 0) (i - 1))))[j]? = some (.int .u8 ((kw k (fun i => l[i]?.getD 0) (i - 1) j).toNat : Int)) := fun j hj => by
              rw [bytesV_get _ _ (by rw [mk_length]; exact hj), mk_get hj]
            have KC := Lib.hid kc; clear kc
            simp only [Act.put]
            go_cut [7] (fun vc wc => vc = .int .u8 ((rcon (i / k)).toNat : Int) ∧ Below w.heap.size w wc ∧ wr.heap.size < wc.heap.size ∧ Blk wc w.heap.size (keyV (fun p => if p < 4 * i then keyS k (fun i => l[i]?.getD 0) p else 0) (k + 6)) 59 ∧ Blk wc wr.heap.size (bytesV (mk 4 (tw k (fun i => l[i]?.getD 0) i))) 56)
            case first =>
              have hk0 : 0 < k := by omega
              have hT := HT.out.lt
              have hKT : w.heap.size ≠ wr.heap.size := by omega
              have hT1 : wr.heap.size < w1.heap.size := hT
              by_cases h0 : i % k = 0
              · have hb0 : ((i : Int) % (k : Int) == 0) = true := by
                  rw [beq_iff_eq, ← Int.natCast_emod, h0]; rfl
                have hr : Hid (dbl (rcon ((i - 1) / k)) = rcon (i / k) ∧ ∀ j, j < 4 → tw k (fun i => l[i]?.getD 0) i j = if j = 0 then xr (bx (kw k (fun i => l[i]?.getD 0) (i - 1) 1)) (rcon ((i - 1) / k)) else bx (kw k (fun i => l[i]?.getD 0) (i - 1) ((j + 1) % 4))) := by
                  obtain ⟨q, hq⟩ : ∃ q, i = k * q := ⟨i / k, by have := Nat.div_add_mod i k; omega⟩
                  have hq1 : 0 < q := by rcases Nat.eq_zero_or_pos q with h | h; · subst h; omega
                                         · exact h
                  obtain ⟨q, rfl⟩ : ∃ z, q = z + 1 := ⟨q - 1, by omega⟩
                  have e1 : (i - 1) / k = q := by
                    rw [hq, Nat.mul_succ]
                    rw [show k * q + k - 1 = (k - 1) + k * q by omega, Nat.add_mul_div_left _ _ hk0, Nat.div_eq_of_lt (by omega), Nat.zero_add]
                  have e2 : i / k = q + 1 := by rw [hq, Nat.mul_div_cancel_left _ hk0]
                  refine ⟨by rw [e1, e2]; rfl, fun j _ => ?_⟩
                  unfold tw
                  rw [if_pos h0, e1, e2]; rfl
                clear h0
                have t0 := HT.out.cell (KC.out 0 (by omega))
                have t1 := HT.out.cell (KC.out 1 (by omega))
                have t2 := HT.out.cell (KC.out 2 (by omega))
                have t3 := HT.out.cell (KC.out 3 (by omega))
                go_wp2_with (refine wpList_buildC rfl _ _ rfl (bytesV (mk 4 fun j => kw k (fun i => l[i]?.getD 0) (i - 1) ((j + 1) % 4))) (by kernel_rfl) ?_)
                refine (boxed_any _ _).mono ?_
                rintro e w2 ⟨rfl, hb2⟩
                clear t0 t1 t2 t3
                have HT2 := Lib.hid (HT.out.below hb2 hT)
                have HB2 := Lib.hid (HB1.out.trans (hb2.mono (by omega)))
                have HK2 := Lib.hid (HK.out.below hb2 (by omega))
                clear hb2
                go_upto_region 17 with (refine wpList_storeO rfl _ _ _ rfl wr.heap.size _ _ rfl rfl _ HT2.out 4 (by kernel_rfl) (by rw [bytesV_size, mk_length]) (by rw [bytesV_size, mk_length]) (bytesV_one _) ?_; intro w3 ho3 hb3)
                have HO3 := Lib.hid ho3; clear ho3
                have t0 : w3.cell? ⟨wr.heap.size, 0, none⟩ = some (.int .u8 ((bx (kw k (fun i => l[i]?.getD 0) (i - 1) 1)).toNat : Int)) := hb3.cell rfl
                have f0 := hb3.free 0
                have HB3 := Lib.hid hb3; clear hb3
                go_wp2_with (go_at_call 32; refine (double_any _ _).mono ?_; rintro e w4 ⟨rfl, rfl⟩)
                go_meet
                case rel =>
                  refine ⟨by rw [hr.out.1], (HO3.out.below HB2.out (by omega)).setCell (by show w.heap.size ≤ wr.heap.size; omega) _, ?_, (HO3.out.blk HK2.out hKT).set_ne hKT _ _ _, ?_⟩
                  · have := HO3.out.size; have := HT2.out.lt; simp [World.setCell]; omega
                  · have h := HB3.out.setByte 0 (xr (bx (kw k (fun i => l[i]?.getD 0) (i - 1) 1)) (rcon ((i - 1) / k)))
                    rw [mk_set] at h
                    rw [mk_congr (f := tw k (fun i => l[i]?.getD 0) i) hr.out.2]
                    exact h
              · have hb0 : ((i : Int) % (k : Int) == 0) = false := by
                  rw [beq_eq_false_iff_ne]; intro e; apply h0; have : ((i % k : Nat) : Int) = 0 := by rw [Int.natCast_emod]; exact e
                  omega
                have hr : Hid (rcon ((i - 1) / k) = rcon (i / k)) := by
                  have e : (i - 1) / k = i / k := by
                    have h1 := Nat.div_add_mod i k
                    have h2 := Nat.mod_lt i hk0
                    rw [show i - 1 = (i % k - 1) + k * (i / k) by omega, Nat.add_mul_div_left _ _ hk0, Nat.div_eq_of_lt (by omega), Nat.zero_add]
                  show _ = _
                  rw [e]
                by_cases h1 : k = 8 ∧ i % 8 = 4
                · have ht : Hid (∀ j, j < 4 → tw k (fun i => l[i]?.getD 0) i j = bx (kw k (fun i => l[i]?.getD 0) (i - 1) j)) := fun j _ => by unfold tw; rw [if_neg h0, if_pos h1]
                  have hb1 : ((k : Int) == 8) = true := by rw [h1.1]; rfl
                  have hb2 : ((i : Int) % 8 == 4) = true := by rw [beq_iff_eq]; omega
                  clear h0 h1
                  go_wp2_with (refine wpList_loadR rfl _ _ rfl wr.heap.size _ rfl _ HT.out (by kernel_rfl) 4 (by kernel_rfl) (by rw [bytesV_size, mk_length]) ?_)
                  refine (boxed_any _ _).mono ?_
                  rintro e w2 ⟨rfl, hb2⟩
                  have HT2 := Lib.hid (HT.out.below hb2 hT)
                  have HB2 := Lib.hid (HB1.out.trans (hb2.mono (by omega)))
                  have HK2 := Lib.hid (HK.out.below hb2 (by omega))
                  clear hb2
                  go_wp2_with (refine wpList_storeO rfl _ _ _ rfl wr.heap.size _ _ rfl rfl _ HT2.out 4 (by kernel_rfl) (by rw [bytesV_size, mk_length]) (by rw [bytesV_size, mk_length]) (bytesV_one _) ?_; intro w3 ho3 hb3)
                  go_meet
                  case rel =>
                    refine ⟨by rw [hr.out], ho3.below HB2.out (by omega), by have := ho3.size; have := HT2.out.lt; omega, ho3.blk HK2.out hKT, ?_⟩
                    rw [mk_congr ht.out]; exact hb3
                · have ht : Hid (∀ j, j < 4 → tw k (fun i => l[i]?.getD 0) i j = kw k (fun i => l[i]?.getD 0) (i - 1) j) := fun j _ => by unfold tw; rw [if_neg h0, if_neg h1]
                  have hend : Hid (Below w.heap.size w w1 ∧ wr.heap.size < w1.heap.size ∧ Blk w1 w.heap.size (keyV (fun p => if p < 4 * i then keyS k (fun i => l[i]?.getD 0) p else 0) (k + 6)) 59 ∧ Blk w1 wr.heap.size (bytesV (mk 4 (tw k (fun i => l[i]?.getD 0) i))) 56) :=
                    ⟨HB1.out, hT1, HK.out, by rw [mk_congr ht.out]; exact HT.out⟩
                  by_cases h8 : k = 8
                  · have hb1 : ((k : Int) == 8) = true := by rw [h8]; rfl
                    have hb2 : ((i : Int) % 8 == 4) = false := by rw [beq_eq_false_iff_ne]; omega
                    clear h0 h1 h8
                    go_wp2
                    go_meet
                    case rel => exact ⟨by rw [hr.out], hend.out⟩
                  · have hb1 : ((k : Int) == 8) = false := by rw [beq_eq_false_iff_ne]; omega
                    clear h0 h1 h8
                    go_wp2
                    go_meet
                    case rel => exact ⟨by rw [hr.out], hend.out⟩
            case rest =>
              obtain ⟨rfl, hbel, hsz2, hk2, ht2⟩ := hcut
              clear HB1 HT HK KC
              go_wp2
              obtain ⟨wp, rfl⟩ : ∃ wp : World, wp = wr := ⟨_, rfl⟩
              go_loopw [97] (fun vx wr => ∃ x : Nat, x ≤ 4 ∧ vx = .int .i64 x ∧ Below w.heap.size w wr ∧ Blk wr w.heap.size (keyV (fun p => if p < 4 * i + x then keyS k (fun i => l[i]?.getD 0) p else 0) (k + 6)) 59 ∧ Blk wr wp.heap.size (bytesV (mk 4 (tw k (fun i => l[i]?.getD 0) i))) 56) (fun x _ => 4 - (intOf x).toNat)
              case atStart => exact ⟨0, by omega, rfl, hbel, hk2, ht2⟩
              case round =>
                clear hbel hk2 ht2
                obtain ⟨x, hx, rfl, hbel, hk2, ht2⟩ := hrel
                have HB2 := Lib.hid hbel; clear hbel
                have HK2 := Lib.hid hk2; clear hk2
                have HT2 := Lib.hid ht2; clear ht2
                by_cases hlx : x < 4
                · have c1 : wr.cell? ⟨w.heap.size, (i - k) * 4 + x, none⟩ = some (.int .u8 ((kw k (fun i => l[i]?.getD 0) (i - k) x).toNat : Int)) := by
                    refine HK2.out.cell ?_
                    rw [keyV_byte _ _ _ (by omega), if_pos (by omega), show (i - k) * 4 + x = 4 * (i - k) + x by omega, keyS_at hlx]
                  have c2 : wr.cell? ⟨wp.heap.size, x, none⟩ = some (.int .u8 ((tw k (fun i => l[i]?.getD 0) i x).toNat : Int)) := by
                    have := HT2.out.byte x (by rw [mk_length]; exact hlx)
                    rwa [mk_get hlx] at this
                  have c3 : wr.cell? ⟨w.heap.size, i * 4 + x, none⟩ = some (.int .u8 (((if i * 4 + x < 4 * i + x then keyS k (fun i => l[i]?.getD 0) (i * 4 + x) else 0) : UInt8).toNat : Int)) := HK2.out.cell (keyV_byte _ _ _ (by omega))
                  have f3 := HK2.out.free (i * 4 + x)
                  clear c240
                  go_wp2
                  refine wp_region_text 21 (by kernel_rfl) (by kernel_rfl) (by kernel_rfl) (by kernel_rfl) fun K hK => ?_
                  simp only [List.take_succ_cons, List.take_zero]
                  go_wp2
                  refine hK _ _ ⟨by rfl, ?_⟩
                  clear hK K
                  simp only [List.drop_succ_cons, List.drop_zero]
                  go_wp2
                  go_roundw
                  case rel =>
                    refine ⟨x + 1, by omega, by go_num, (HB2.out.setCell (Nat.le_refl _) _).drew, ?_, (HT2.out.set_ne (by omega) _ _ _).drew⟩
                    have h := HK2.out.set (i * 4 + x) (.int .u8 ((xr (kw k (fun i => l[i]?.getD 0) (i - k) x) (tw k (fun i => l[i]?.getD 0) i x)).toNat : Int))
                    rw [keyV_set _ _ _ (by omega)] at h
                    rw [keyV_congr (g := fun j => if j = i * 4 + x then xr (kw k (fun i => l[i]?.getD 0) (i - k) x) (tw k (fun i => l[i]?.getD 0) i x) else if j < 4 * i + x then keyS k (fun i => l[i]?.getD 0) j else 0) (k + 6) fun p _ => ?_]
                    · exact h.drew
                    · by_cases hp : p = i * 4 + x
                      · rw [if_pos hp, if_pos (by omega), hp, show i * 4 + x = 4 * i + x by omega, keyS_at hlx, kw_high hi1 (by omega)]; rfl
                      · rw [if_neg hp]
                        by_cases hp2 : p < 4 * i + x
                        · rw [if_pos hp2, if_pos (by omega)]
                        · rw [if_neg hp2, if_neg (by omega)]
                  case measure => simp [intOf]; omega
                · obtain rfl : x = 4 := by omega
                  go_wp2
                  go_roundw
                  case rel =>
                    refine ⟨i + 1, by omega, by omega, by go_num, by rw [show i + 1 - 1 = i by omega], HB2.out, ?_⟩
                    rw [show 4 * (i + 1) = 4 * i + 4 by omega]; exact HK2.out
                  case measure => simp [intOf]; omega
          · obtain rfl : i = 4 * (k + 7) := by omega
            have hd : decide (4 * ((k : Int) + 7) < 4 * ((k : Int) + 6 + 1)) = false := decide_eq_false (by omega)
            go_wp2
            go_ret2
            exact ⟨w.heap.size, Nat.le_refl _, rfl, by have h := H1.out; rw [show 4 * (4 * (k + 7)) = 16 * (k + 7) by omega] at h; exact h, HB.out⟩
end Go.Proofs.Ytnbjpilanjngmaa.XS
