/- The walks over package mac, third part: keys of passwords. -/
import Derived.Test.YtnbjpilanjngmaaMac2
namespace Go.Proofs.Ytnbjpilanjngmaa.XS
open Go Go.RowKit
attribute [local go_sem] bits_xr

theorem OwnB.form0 {w : World} {base : Nat} {E : TypeId} {v : Value} {l : List UInt8} (h : OwnB w base E v l) : ∃ ad cap, v = .slice ad l.length cap ∧ l.length ≤ cap ∧ cap ≤ 9223372036854775807 := by
  obtain ⟨_, h | ⟨g, cap, cur, rfl, hg, hh, hn, hm, hs, ht⟩⟩ := h
  · obtain ⟨rfl, h0⟩ := h
    exact ⟨none, 0, by rw [h0], by omega, by omega⟩
  · exact ⟨_, cap, rfl, hn, by unfold maxLen at hm; omega⟩
/-- Its beginning is its own too. -/
theorem OwnB.cut {w : World} {base : Nat} {E : TypeId} {ad : Option Addr} {l : List UInt8} {cap n : Nat} (h : OwnB w base E (.slice ad l.length cap) l) (hn : n ≤ l.length) : OwnB w base E (.slice ad n cap) (l.take n) := by
  obtain ⟨_, h | ⟨g, cap', cur, he, hg, hh, hn', hm, hs, ht⟩⟩ := h
  · obtain ⟨he, h0⟩ := h
    simp only [Value.slice.injEq] at he
    obtain ⟨rfl, _, rfl⟩ := he
    rw [show n = 0 by omega, List.take_zero]
    exact OwnB.nil _ _ _
  · simp only [Value.slice.injEq] at he
    obtain ⟨rfl, _, rfl⟩ := he
    have hl : (l.take n).length = n := by rw [List.length_take]; omega
    unfold OwnB
    rw [hl]
    refine ⟨by rw [List.length_map, hl]; omega, .inr ⟨g, cap, cur, rfl, hg, hh, by omega, hm, hs, ?_⟩⟩
    rw [Nat.mul_one] at ht ⊢
    rw [List.map_take, ← ht, List.take_take, show min n l.length = n by omega]
theorem RdB.ofBlk {w : World} {b : Nat} {E : TypeId} {l : List UInt8} (h : Blk w b (bytesV l) E) (hl : l.length ≤ 9223372036854775807) : RdB w w.heap.size (.slice (some ⟨b, 0, none⟩) l.length l.length) l :=
  ⟨_, l.length, rfl, Nat.le_refl _, hl, (fun e => by cases e), fun _ => ⟨b, 0, rfl, h.lt, fun i hi => by rw [Nat.zero_add]; exact h.byte i hi⟩⟩
theorem sha_hmac (key b : List UInt8) : sha (hkx key 0x5c ++ mk 20 (sha (hkx key 0x36 ++ b))) = hmac key b := by unfold hmac; rfl
theorem ub_zero (pw salt : List UInt8) (q : Nat) : ub pw salt (q + 1) 0 = hmac pw (salt ++ [0, 0, UInt8.ofNat ((q + 1) / 256), UInt8.ofNat (q + 1)]) := by rw [ub]; rfl
theorem ub_succ (pw salt : List UInt8) (i j : Nat) : ub pw salt i (j + 1) = hmac pw (mk 20 (ub pw salt i j)) := by rw [ub]
theorem i_hi (q : Nat) (h : q ≤ 60) : ((q : Int) + 1) / 256 = ((UInt8.ofNat ((q + 1) / 256)).toNat : Int) := by rw [UInt8.toNat_ofNat']; omega
theorem i_lo (q : Nat) (h : q ≤ 60) : ((q : Int) + 1) = ((UInt8.ofNat (q + 1)).toNat : Int) := by rw [UInt8.toNat_ofNat']; omega
theorem lit_i (w : World) (q : Nat) (hq : q ≤ 60) (E : TypeId) : ∀ j, j < 4 → (w.alloc (.cells #[.int .u8 0, .int .u8 0, .int .u8 (((q : Int) + 1) / 256), .int .u8 ((q : Int) + 1)] E)).cell? ⟨w.heap.size, 0 + j, none⟩ = some (.int .u8 ((([0, 0, UInt8.ofNat ((q + 1) / 256), UInt8.ofNat (q + 1)] : List UInt8)[j]?.getD 0).toNat : Int)) := fun j hj => by
  rw [i_hi q hq, i_lo q hq]
  rcases (by omega : j = 0 ∨ j = 1 ∨ j = 2 ∨ j = 3) with rfl | rfl | rfl | rfl <;> exact (Blk.new w _ E).cell rfl
theorem mk_take (n m : Nat) (f : Nat → UInt8) (h : m ≤ n) : (mk n f).take m = mk m f := by
  unfold mk; rw [← List.map_take, List.take_range, Nat.min_eq_left h]

set_option maxHeartbeats 2000000 in
set_option maxRecDepth 100000 in
theorem mkey_any (pw salt : List UInt8) (vp vs : Value) (rounds long : Nat) (B : Nat) (w : World) (hB : B ≤ w.heap.size) (hp : RdB w B vp pw) (hs : RdB w B vs salt) (hlp : pw.length ≤ 140737488360000) (hls : salt.length ≤ 1000000) (hr : 1 ≤ rounds ∧ rounds ≤ 5000) (hlong : long ≤ 1000) :
    Calls Try.prog 39 #[vp, vs, .int .i64 (rounds : Int), .int .i64 (long : Int)] w fun e w' => ∃ v, e = .returned (.tuple #[v, .bool true]) ∧ OwnB w' w.heap.size 5 v (mk long (pbk pw salt rounds)) ∧ Below w.heap.size w w' := by
  have HP := Lib.hid hp; clear hp
  have HS := Lib.hid hs; clear hs
  have hz20 : ∀ w : World, (zeroValue 50).run Try.prog w = .ok (.agg (bytesV (zeros 20))) w := fun w => by kernel_rfl
  have hzh : ∀ w : World, (zeroValue 68).run Try.prog w = .ok (.agg (hV ⟨0, 0, 0, 0, 0⟩ (fun _ => 0) 0 0)) w := fun w => by kernel_rfl
  have e1 : decide ((rounds : Int) < 1) = false := decide_eq_false (by omega)
  have e2 : decide (5000 < (rounds : Int)) = false := decide_eq_false (by omega)
  have e3 : decide ((long : Int) < 0) = false := decide_eq_false (by omega)
  have e4 : decide (1000 < (long : Int)) = false := decide_eq_false (by omega)
  go_enter Try.func39, Try.ntmps39
  go_wp2_with fail
  refine (halves_any pw vp B _ hB HP.out hlp).mono ?_
  rintro e w1 ⟨c1, c2, rfl, hr1, hr2, hb1⟩
  have HB1 := Lib.hid hb1; clear hb1
  have z1 := hr1.size
  have z2 := hr2.size
  have o1 := rep_one hr1
  have o2 := rep_one hr2
  have H1 := Lib.hid hr1
  have H2 := Lib.hid hr2
  clear hr1 hr2
  have hs1 := HB1.out.size
  obtain ⟨q1, q2, q3, q4, q5, q6⟩ := locals2 w1 (hV ⟨0, 0, 0, 0, 0⟩ (fun _ => 0) 0 0) c1 c2 68
  have Q1 := Lib.hid q1
  have Q2 := Lib.hid q2
  have HBQ := Lib.hid (HB1.out.trans (q5.mono HB1.out.size))
  clear q1 q2 q5
  go_upto_region 4 with (first
    | (refine wpList_storeR rfl _ _ _ rfl w1.heap.size _ _ rfl rfl _ Q1.out 71 (by kernel_rfl) z1 (by rw [hV_size]) o1 ?_)
    | (refine wpList_storeR rfl _ _ _ rfl (w1.heap.size + 1) _ _ rfl rfl _ Q2.out 71 (by kernel_rfl) z2 (by rw [hV_size]) o2 ?_))
  have Q3 := Lib.hid q3
  have Q4 := Lib.hid q4
  clear q3 q4 Q1 Q2
  generalize (((w1.alloc (Obj.cells (hV ⟨0, 0, 0, 0, 0⟩ (fun _ => 0) 0 0) 68)).alloc (Obj.cells (hV ⟨0, 0, 0, 0, 0⟩ (fun _ => 0) 0 0) 68)).setRow w1.heap.size c1).setRow (w1.heap.size + 1) c2 = W at *
  try simp only [Act.put]
  go_wp2
  go_loopw [12, 13] (fun vo vi wr => ∃ q : Nat, vi = .int .i64 ((q : Int) + 1) ∧ q ≤ 60 ∧ Below W.heap.size W wr ∧ OwnB wr W.heap.size 5 vo (mk (20 * q) (pbk pw salt rounds))) (fun _ vi _ => long - 20 * ((intOf vi).toNat - 1))
  case atStart => exact ⟨0, rfl, by omega, Below.refl _ _, OwnB.nil _ _ _⟩
  case round =>
    obtain ⟨q, rfl, hq60, hb, ho⟩ := hrel
    have HB := Lib.hid hb; clear hb
    obtain ⟨ado, capo, rfl, hco1, hco2⟩ := ho.form0
    rw [mk_length] at ho hco1 ⊢
    have HO := Lib.hid ho; clear ho
    by_cases hlt : 20 * q < long
    · obtain ⟨wq, rfl⟩ : ∃ wq : World, wq = wr := ⟨_, rfl⟩
      have hd : decide (20 * (q : Int) < (long : Int)) = true := decide_eq_true (by omega)
      have HSQ := Lib.hid (HS.out.below (HBQ.out.trans (HB.out.mono (by omega))) hB)
      have hf5 : ([] : List UInt8).length + salt.length ≤ 140737488355328 := by simp; omega
      have hf6 : (([] : List UInt8) ++ salt).length + 4 ≤ 140737488355328 := by simp; omega
      go_upto_region 9 with (first
        | (refine wpList_appendR rfl _ _ _ rfl wq.heap.size 5 (by kernel_rfl) (by kernel_rfl) _ [] rfl (OwnB.nil _ _ _) vs B rfl salt HSQ.out hf5 (Nat.le_refl _) ?_; intro v5 w5 ho5 hg5)
        | (refine wpList_appendB rfl _ _ _ rfl wq.heap.size 5 (by kernel_rfl) (by kernel_rfl) _ ([] ++ salt) rfl (ho5.alloc _) w5.heap.size 0 4 4 rfl [0, 0, UInt8.ofNat ((q + 1) / 256), UInt8.ofNat (q + 1)] rfl (lit_i w5 q hq60 _) hf6 (Nat.le_trans hg5.size (by simp)) ?_; intro v6 w6 ho6 hg6))
      have hb5 : Below wq.heap.size wq w5 := grown_below hg5 (Below.refl _ _) (Nat.le_refl _) (fun z hz => by cases hz)
      have hb6 : Below wq.heap.size wq w6 := grown_below hg6 (hb5.alloc hb5.size _) (Nat.le_trans hb5.size (by simp)) (fun z hz => (ho5.block z hz).1)
      have hr6 := ho6.rd
      rw [List.nil_append] at hr6
      have HR6 := Lib.hid hr6
      have HB6 := Lib.hid hb6
      clear hr6 hb6 hb5 hg5 hg6 ho5 ho6
      have Q36 := Lib.hid ((Q3.out.below HB.out (by omega)).below HB6.out (by have := HB.out.size; omega))
      have Q46 := Lib.hid ((Q4.out.below HB.out (by omega)).below HB6.out (by have := HB.out.size; omega))
      try simp only [Act.put]
      go_wp2_with (first
        | (refine wpList_loadR rfl _ _ rfl w1.heap.size _ rfl _ Q36.out (by kernel_rfl) 71 (by kernel_rfl) z1 ?_)
        | (refine wpList_loadR rfl _ _ rfl (w1.heap.size + 1) _ rfl _ Q46.out (by kernel_rfl) 71 (by kernel_rfl) z2 ?_))
      refine (msum_any (hkx pw 0x36) (hkx pw 0x5c) (salt ++ [0, 0, UInt8.ofNat ((q + 1) / 256), UInt8.ofNat (q + 1)]) c1 c2 _ w6.heap.size _ (Nat.le_refl _) H1.out H2.out HR6.out (by rw [show (hkx pw 0x36).length = 64 from mk_length _ _]; simp; omega) (by rw [show (hkx pw 0x5c).length = 64 from mk_length _ _]; omega)).mono ?_
      rintro e w7 ⟨rfl, hb7⟩
      have HB7 := Lib.hid (HB6.out.trans (hb7.mono HB6.out.size)); clear hb7
      rw [sha_hmac, ← ub_zero]
      go_upto_region 10 with (refine wpList_storeO rfl _ _ _ rfl w7.heap.size _ _ rfl rfl _ (Blk.new _ _ _) 20 (by kernel_rfl) (by rw [bytesV_size, mk_length]) (by rw [bytesV_size, zeros_length]) (bytesV_one _) ?_; intro w8 ho8 hb8)
      have HB8 := Lib.hid (ho8.below (HB7.out.alloc HB7.out.size (Obj.cells (bytesV (zeros 20)) 50)) HB7.out.size)
      have HS8 := Lib.hid (show w8.heap.size = w7.heap.size + 1 by rw [ho8.size]; simp)
      have hl8 : w7.heap.size < w8.heap.size := by have := HS8.out; omega
      have HU8 := Lib.hid hb8
      have HU8' := Lib.hid (hb8.alloc (Obj.cells (bytesV (zeros 20)) 50))
      clear ho8 hb8
      try simp only [Act.put]
      go_upto_region 11 with (first
        | (refine wpList_loadR rfl _ _ rfl w7.heap.size _ rfl _ HU8.out (by kernel_rfl) 20 (by kernel_rfl) (by rw [bytesV_size, mk_length]) ?_)
        | (refine wpList_storeO rfl _ _ _ rfl w8.heap.size _ _ rfl rfl _ (Blk.new _ _ _) 20 (by kernel_rfl) (by rw [bytesV_size, mk_length]) (by rw [bytesV_size, zeros_length]) (bytesV_one _) ?_; intro w9 ho9 hb9))
      have HB9 := Lib.hid (ho9.below (HB8.out.alloc HB8.out.size (Obj.cells (bytesV (zeros 20)) 50)) HB8.out.size)
      have HU9 := Lib.hid (ho9.blk HU8'.out (by omega))
      have HT9 := Lib.hid hb9
      clear ho9 hb9 HU8 HU8'
      have hs7 := HB7.out.size
      obtain ⟨u, hu⟩ : ∃ u, u = w7.heap.size := ⟨_, rfl⟩
      rw [HS8.out, ← hu] at HT9 ⊢
      clear hl8
      rw [← hu] at HU9 hs7
      clear hu
      have hq0 := HB.out.size
      try simp only [Act.put]
      obtain ⟨n, hn⟩ : ∃ n, rounds = n + 1 := ⟨rounds - 1, by omega⟩
      have HN := Lib.hid hn
      have hrn : (rounds : Int) - 1 = (n : Int) := by omega
      clear hn
      go_wp2
      go_loopw [59] (fun vj wr => ∃ j : Nat, j ≤ n ∧ vj = .int .i64 j ∧ Below wq.heap.size wq wr ∧ Blk wr u (bytesV (mk 20 (ub pw salt (q + 1) j))) 50 ∧ Blk wr (u + 1) (bytesV (mk 20 (tb pw salt (q + 1) j))) 50) (fun j _ => n - (intOf j).toNat)
      case atStart => exact ⟨0, by omega, rfl, HB9.out, HU9.out, HT9.out⟩
      case round =>
        clear HB9 HU9 HT9 HB8 HB7 HB6 HR6 Q36 Q46
        obtain ⟨j, hj, rfl, hb, hu', ht'⟩ := hrel
        have HBJ := Lib.hid hb; clear hb
        have HU := Lib.hid hu'; clear hu'
        have HT := Lib.hid ht'; clear ht'
        by_cases hjn : j < n
        · have hdj : decide ((j : Int) < (n : Int)) = true := decide_eq_true (by omega)
          have Q3J := Lib.hid (Blk.drew ((Q3.out.below HB.out (by omega)).below HBJ.out (by omega)))
          have Q4J := Lib.hid (Blk.drew ((Q4.out.below HB.out (by omega)).below HBJ.out (by omega)))
          have hru := RdB.ofBlk (w := wr.drew) (Blk.drew HU.out) (by rw [mk_length]; omega)
          rw [mk_length] at hru
          have HRU := Lib.hid hru; clear hru
          go_wp2
          refine wp_region_text 3 (by kernel_rfl) (by kernel_rfl) (by kernel_rfl) (by kernel_rfl) fun K hK => ?_
          simp only [List.take_succ_cons, List.take_zero]
          go_wp2_with (first
            | (refine wpList_loadR rfl _ _ rfl w1.heap.size _ rfl _ Q3J.out (by kernel_rfl) 71 (by kernel_rfl) z1 ?_)
            | (refine wpList_loadR rfl _ _ rfl (w1.heap.size + 1) _ rfl _ Q4J.out (by kernel_rfl) 71 (by kernel_rfl) z2 ?_))
          refine hK _ _ ⟨by rfl, ?_⟩
          clear hK K
          simp only [List.drop_succ_cons, List.drop_zero]
          go_wp2_with fail
          refine (msum_any (hkx pw 0x36) (hkx pw 0x5c) (mk 20 (ub pw salt (q + 1) j)) c1 c2 _ wr.drew.heap.size _ (Nat.le_refl _) H1.out H2.out HRU.out (by rw [show (hkx pw 0x36).length = 64 from mk_length _ _, mk_length]; omega) (by rw [show (hkx pw 0x5c).length = 64 from mk_length _ _]; omega)).mono ?_
          rintro e w10 ⟨rfl, hb10⟩
          have HB10 := Lib.hid (HBJ.out.drew.trans (hb10.mono HBJ.out.size))
          have HU10 := Lib.hid ((Blk.drew HU.out).below hb10 HU.out.lt)
          have HT10 := Lib.hid ((Blk.drew HT.out).below hb10 HT.out.lt)
          clear hb10
          rw [sha_hmac, ← ub_succ]
          go_upto_region 14 with (refine wpList_storeO rfl _ _ _ rfl u _ _ rfl rfl _ HU10.out 20 (by kernel_rfl) (by rw [bytesV_size, mk_length]) (by rw [bytesV_size, mk_length]) (bytesV_one _) ?_; intro w11 ho11 hb11)
          have HB11 := Lib.hid (ho11.below HB10.out (by omega))
          have HT11 := Lib.hid (ho11.blk HT10.out (by omega))
          have HU11 := Lib.hid hb11
          clear ho11 hb11
          try simp only [Act.put]
          go_wp2
          obtain ⟨wz, rfl⟩ : ∃ wz : World, wz = wr := ⟨_, rfl⟩
          go_loopw [65] (fun vk wr => ∃ k : Nat, k ≤ 20 ∧ vk = .int .i64 k ∧ Below wq.heap.size wq wr ∧ Blk wr u (bytesV (mk 20 (ub pw salt (q + 1) (j + 1)))) 50 ∧ Blk wr (u + 1) (bytesV (mk 20 fun i => if i < k then tb pw salt (q + 1) (j + 1) i else tb pw salt (q + 1) j i)) 50) (fun k _ => 20 - (intOf k).toNat)
          case atStart => exact ⟨0, by omega, rfl, HB11.out, HU11.out, by rw [mk_congr (g := tb pw salt (q + 1) j) fun i _ => if_neg (by omega)]; exact HT11.out⟩
          case round =>
            clear HB11 HU11 HT11 HB10 HU10 HT10 HBJ HU HT
            obtain ⟨k, hk, rfl, hb, hu', ht'⟩ := hrel
            have HBK := Lib.hid hb; clear hb
            by_cases hk20 : k < 20
            · have cu := hu'.byte k (by rw [mk_length]; exact hk20)
              rw [mk_get hk20] at cu
              have ct := ht'.byte k (by rw [mk_length]; exact hk20)
              rw [mk_get hk20, if_neg (Nat.lt_irrefl k)] at ct
              have ft := ht'.free k
              have HU := Lib.hid hu'; clear hu'
              have HT := Lib.hid ht'; clear ht'
              go_wp2
              refine wp_region_text 8 (by kernel_rfl) (by kernel_rfl) (by kernel_rfl) (by kernel_rfl) fun K hK => ?_
              simp only [List.take_succ_cons, List.take_zero]
              go_wp2
              refine hK _ _ ⟨by rfl, ?_⟩
              clear hK K
              simp only [List.drop_succ_cons, List.drop_zero]
              go_wp2
              go_roundw
              case rel =>
                refine ⟨k + 1, by omega, by go_num, (HBK.out.setCell (by show wq.heap.size ≤ u + 1; omega) _).drew, (HU.out.set_ne (by omega) _ _ _).drew, ?_⟩
                have h := HT.out.setByte k (tb pw salt (q + 1) (j + 1) k)
                rw [mk_step (tb pw salt (q + 1) (j + 1))] at h
                exact h.drew
              case measure => simp [intOf]; omega
            · rw [mk_congr (g := tb pw salt (q + 1) (j + 1)) fun i hi => if_pos (by omega)] at ht'
              have HU := Lib.hid hu'; clear hu'
              have HT := Lib.hid ht'; clear ht'
              go_wp2
              go_roundw
              case rel => exact ⟨j + 1, by omega, by go_num, HBK.out, HU.out, HT.out⟩
              case measure => simp [intOf]; omega
        · have hjn' : j = n := by omega
          have hoj : OwnB wr W.heap.size 5 (.slice ado (20 * q) capo) (mk (20 * q) (pbk pw salt rounds)) := HO.out.below HBJ.out (Nat.le_refl _)
          have HOJ := Lib.hid hoj; clear hoj
          have hfit : (mk (20 * q) (pbk pw salt rounds)).length + 20 ≤ 140737488355328 := by rw [mk_length]; omega
          have hbase : W.heap.size ≤ wr.heap.size := Nat.le_trans hq0 HBJ.out.size
          have hnews : ∀ i, i < 20 → wr.cell? ⟨u + 1, 0 + i, none⟩ = some (.int .u8 (((mk 20 (tb pw salt (q + 1) j))[i]?.getD 0).toNat : Int)) := fun i hi => by
            rw [Nat.zero_add]; exact HT.out.byte i (by rw [mk_length]; exact hi)
          have HNEWS := Lib.hid hnews; clear hnews
          have HJ := Lib.hid hjn'; clear hjn'
          have hdj : decide ((j : Int) < (n : Int)) = false := decide_eq_false (by have := HJ.out; omega)
          go_wp2_with (refine wpList_appendB rfl _ _ _ rfl W.heap.size 5 (by kernel_rfl) (by kernel_rfl) _ _ rfl HOJ.out (u + 1) 0 20 20 rfl (mk 20 (tb pw salt (q + 1) j)) (mk_length _ _) HNEWS.out hfit hbase ?_; intro vo' w12 ho12 hg12)
          go_roundw
          case rel =>
            refine ⟨q + 1, by go_num, by omega, ?_, ?_⟩
            · exact grown_below hg12 (HB.out.trans (HBJ.out.mono (by omega))) hbase fun z hz => (HOJ.out.block z hz).1
            · rw [show 20 * (q + 1) = 20 * q + 20 by omega, mk_append, mk_congr (f := fun j => pbk pw salt rounds (20 * q + j)) (g := tb pw salt (q + 1) j) fun i hi => by
                unfold pbk
                rw [show (20 * q + i) / 20 + 1 = q + 1 by omega, show (20 * q + i) % 20 = i by omega, show rounds - 1 = j by have := HJ.out; have := HN.out; omega]]
              exact ho12
          case measure => simp [intOf]; omega
    · have hd : decide (20 * (q : Int) < (long : Int)) = false := decide_eq_false (by omega)
      have hlc : (long : Int) ≤ (capo : Int) := by omega
      have hcut := OwnB.cut (l := mk (20 * q) (pbk pw salt rounds)) (n := long) (by rw [mk_length]; exact HO.out) (by rw [mk_length]; omega)
      rw [mk_take _ _ _ (by omega)] at hcut
      have HC := Lib.hid hcut; clear hcut
      go_wp2
      go_ret2
      exact ⟨_, rfl, HC.out.mono HBQ.out.size, HBQ.out.trans (HB.out.mono HBQ.out.size)⟩
end Go.Proofs.Ytnbjpilanjngmaa.XS
