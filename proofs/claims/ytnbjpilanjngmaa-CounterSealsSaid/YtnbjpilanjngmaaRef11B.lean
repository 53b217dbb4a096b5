/- The walks over the reference of layer 11: a password's key. -/
import Derived.Test.YtnbjpilanjngmaaRef11
namespace Go.Proofs.Ytnbjpilanjngmaa.XS
open Go Go.RowKit
attribute [local go_sem] bits_xr

theorem lit_ir (w : World) (q : Nat) (hq : q ≤ 60) (E : TypeId) : ∀ j, j < 4 → (w.alloc (.cells #[.int .u8 0, .int .u8 0, .int .u8 (((q : Int) + 1) / 256), .int .u8 (((q : Int) + 1) % 256)] E)).cell? ⟨w.heap.size, 0 + j, none⟩ = some (.int .u8 ((([0, 0, UInt8.ofNat ((q + 1) / 256), UInt8.ofNat (q + 1)] : List UInt8)[j]?.getD 0).toNat : Int)) := fun j hj => by
  rw [show ((q : Int) + 1) % 256 = (q : Int) + 1 by omega]
  exact lit_i w q hq E j hj

set_option maxHeartbeats 2000000 in
set_option maxRecDepth 100000 in
theorem key11_any (pw salt : List UInt8) (vp vs : Value) (rounds long : Nat) (w : World) (hp : RdB w w.heap.size vp pw) (hs : RdB w w.heap.size vs salt) (hlp : pw.length ≤ 1000000) (hls : salt.length ≤ 800000) (hr : 1 ≤ rounds ∧ rounds ≤ 5000) (hlong : long ≤ 1000) :
    Calls Try.prog 28 #[vp, vs, .int .i64 (rounds : Int), .int .i64 (long : Int)] w fun e w' => ∃ v, e = .returned (.tuple #[v, .bool true]) ∧ OwnB w' w.heap.size 5 v (mk long (pbk pw salt rounds)) ∧ Below w.heap.size w w' := by
  have HP := Lib.hid hp; clear hp
  have HS := Lib.hid hs; clear hs
  have hz20 : ∀ w : World, (zeroValue 50).run Try.prog w = .ok (.agg (bytesV (zeros 20))) w := fun w => by kernel_rfl
  have e1 : decide ((rounds : Int) < 1) = false := decide_eq_false (by omega)
  have e2 : decide (5000 < (rounds : Int)) = false := decide_eq_false (by omega)
  have e3 : decide ((long : Int) < 0) = false := decide_eq_false (by omega)
  have e4 : decide (1000 < (long : Int)) = false := decide_eq_false (by omega)
  obtain ⟨n, hn⟩ : ∃ n, rounds = n + 1 := ⟨rounds - 1, by omega⟩
  have hn5 : n ≤ 5000 := by omega
  have HN := Lib.hid hn
  clear hn
  go_enter Try.func28, Try.ntmps28
  go_wp2_with fail
  go_loopw [10, 11] (fun vo vi wr => ∃ q : Nat, vi = .int .i64 ((q : Int) + 1) ∧ q ≤ 60 ∧ Below w.heap.size w wr ∧ OwnB wr w.heap.size 5 vo (mk (20 * q) (pbk pw salt rounds))) (fun _ vi _ => long - 20 * ((intOf vi).toNat - 1))
  case atStart => exact ⟨0, rfl, by omega, Below.refl _ _, OwnB.nil _ _ _⟩
  case round =>
    obtain ⟨q, rfl, hq60, hb, ho⟩ := hrel
    have HB := Lib.hid hb; clear hb
    obtain ⟨ado, capo, rfl, hco1, hco2⟩ := ho.form0
    rw [mk_length] at ho hco1 ⊢
    have HO := Lib.hid ho; clear ho
    by_cases hlt : 20 * q < long
    · obtain ⟨wq, rfl⟩ : ∃ wq : World, wq = wr := ⟨_, rfl⟩
      have hd : decide (20 * (q : Int) < (long : Int)) = true := decide_eq_true (by omega)
      have hq0 := HB.out.size
      have HLT := Lib.hid hlt
      have HSQ := Lib.hid (HS.out.below HB.out (Nat.le_refl _))
      have hf5 : ([] : List UInt8).length + salt.length ≤ 140737488355328 := by simp; omega
      have hf6 : (([] : List UInt8) ++ salt).length + 4 ≤ 140737488355328 := by simp; omega
      go_wp2_with (first
        | (refine wpList_appendR rfl _ _ _ rfl wq.heap.size 5 (by kernel_rfl) (by kernel_rfl) _ [] rfl (OwnB.lit _ _ _ (Nat.le_refl _)) vs w.heap.size rfl salt (HSQ.out.below ((Below.refl _ _).alloc hq0 _) (Nat.le_refl _)) hf5 (by simp) ?_; intro v5 w5 ho5 hg5)
        | (refine wpList_appendB rfl _ _ _ rfl wq.heap.size 5 (by kernel_rfl) (by kernel_rfl) _ ([] ++ salt) rfl (ho5.alloc _) w5.heap.size 0 4 4 rfl [0, 0, UInt8.ofNat ((q + 1) / 256), UInt8.ofNat (q + 1)] rfl (lit_ir w5 q hq60 _) hf6 (Nat.le_trans (by simp) (Nat.le_trans hg5.size (by simp))) ?_; intro v6 w6 ho6 hg6))
      have hb5 : Below wq.heap.size wq w5 := grown_below hg5 ((Below.refl _ _).alloc (Nat.le_refl _) _) (by simp) (fun z hz => by have h : some wq.heap.size = some z := hz; have := Option.some.inj h; omega)
      have hb6 : Below wq.heap.size wq w6 := grown_below hg6 (hb5.alloc hb5.size _) (Nat.le_trans hb5.size (by simp)) (fun z hz => (ho5.block z hz).1)
      have hr6 := ho6.rd
      rw [List.nil_append] at hr6
      have HR6 := Lib.hid hr6
      have HB6 := Lib.hid hb6
      clear hr6 hb6 hb5 hg5 hg6 ho5 ho6
      have hs6 := HB6.out.size
      refine (sum11_any w6 vp v6 pw (salt ++ [0, 0, UInt8.ofNat ((q + 1) / 256), UInt8.ofNat (q + 1)]) ((HP.out.below (HB.out.trans (HB6.out.mono hq0)) (Nat.le_refl _)).mono (by omega)) HR6.out hlp (by simp; omega)).mono ?_
      rintro e w7 ⟨rfl, hb7⟩
      have HB7 := Lib.hid (HB6.out.trans (hb7.mono HB6.out.size)); clear hb7
      rw [← ub_zero]
      have hs7 := HB7.out.size
      go_wp2_with (first
        | (refine wpList_storeO rfl _ _ _ rfl w7.heap.size _ _ rfl rfl _ (Blk.new _ _ _) 20 (by kernel_rfl) (by rw [bytesV_size, mk_length]) (by rw [bytesV_size, zeros_length]) (bytesV_one _) ?_; intro w8 ho8 hb8; have HB8 := Lib.hid (ho8.below (HB7.out.alloc hs7 (Obj.cells (bytesV (zeros 20)) 50)) hs7); have HS8 := Lib.hid (show w8.heap.size = w7.heap.size + 1 by rw [ho8.size]; simp); have hl8 : w7.heap.size < w8.heap.size := (by have := HS8.out; omega); have HU8 := Lib.hid hb8; have HU8' := Lib.hid (hb8.alloc (Obj.cells (bytesV (zeros 20)) 50)); clear ho8 hb8)
        | (refine wpList_loadR rfl _ _ rfl w7.heap.size _ rfl _ HU8.out (by kernel_rfl) 20 (by kernel_rfl) (by rw [bytesV_size, mk_length]) ?_)
        | (refine wpList_storeO rfl _ _ _ rfl w8.heap.size _ _ rfl rfl _ (Blk.new _ _ _) 20 (by kernel_rfl) (by rw [bytesV_size, mk_length]) (by rw [bytesV_size, zeros_length]) (bytesV_one _) ?_; intro w9 ho9 hb9; have HB9 := Lib.hid (ho9.below (HB8.out.alloc HB8.out.size (Obj.cells (bytesV (zeros 20)) 50)) HB8.out.size); have HU9 := Lib.hid (ho9.blk HU8'.out (by omega)); have HT9 := Lib.hid hb9; clear ho9 hb9 HU8 HU8'))
      obtain ⟨u, hu⟩ : ∃ u, u = w7.heap.size := ⟨_, rfl⟩
      rw [HS8.out, ← hu] at HT9 ⊢
      rw [← hu] at HU9 hs7
      have hs9 := HB9.out.size
      clear hu hl8
      have hrn : (rounds : Int) = (n : Int) + 1 := by have := HN.out; omega
      have HRN := Lib.hid hrn; clear hrn
      go_wp2
      go_loopw [15] (fun vj wr => ∃ j : Nat, j ≤ n ∧ vj = .int .i64 ((j : Int) + 1) ∧ Below wq.heap.size wq wr ∧ Blk wr u (bytesV (mk 20 (ub pw salt (q + 1) j))) 50 ∧ Blk wr (u + 1) (bytesV (mk 20 (tb pw salt (q + 1) j))) 50) (fun j _ => n + 1 - (intOf j).toNat)
      case atStart => exact ⟨0, by omega, rfl, HB9.out, HU9.out, HT9.out⟩
      case round =>
        clear HB9 HU9 HT9 HB8 HB7 HB6 HR6 hs9 hs6
        obtain ⟨j, hj, rfl, hb, hu', ht'⟩ := hrel
        have HBJ := Lib.hid hb; clear hb
        have HU := Lib.hid hu'; clear hu'
        have HT := Lib.hid ht'; clear ht'
        have hsj := HBJ.out.size
        by_cases hjn : j < n
        · have HJN := Lib.hid hjn
          have hdj : decide ((j : Int) + 1 < (rounds : Int)) = true := decide_eq_true (by have := HRN.out; omega)
          have hru := RdB.ofBlk HU.out (by rw [mk_length]; omega)
          rw [mk_length] at hru
          have HRU := Lib.hid hru; clear hru
          go_wp2_with fail
          refine (sum11_any wr vp _ pw (mk 20 (ub pw salt (q + 1) j)) ((HP.out.below (HB.out.trans (HBJ.out.mono hq0)) (Nat.le_refl _)).mono (by omega)) HRU.out hlp (by rw [mk_length]; omega)).mono ?_
          rintro e w10 ⟨rfl, hb10⟩
          have HB10 := Lib.hid (HBJ.out.trans (hb10.mono hsj))
          have HU10 := Lib.hid (HU.out.below hb10 HU.out.lt)
          have HT10 := Lib.hid (HT.out.below hb10 HT.out.lt)
          clear hb10
          rw [← ub_succ]
          go_wp2_with (refine wpList_storeO rfl _ _ _ rfl u _ _ rfl rfl _ HU10.out 20 (by kernel_rfl) (by rw [bytesV_size, mk_length]) (by rw [bytesV_size, mk_length]) (bytesV_one _) ?_; intro w11 ho11 hb11; have HB11 := Lib.hid (ho11.below HB10.out (by omega)); have HT11 := Lib.hid (ho11.blk HT10.out (by omega)); have HU11 := Lib.hid hb11; clear ho11 hb11)
          obtain ⟨wz, rfl⟩ : ∃ wz : World, wz = wr := ⟨_, rfl⟩
          go_loopw [16] (fun vk wr => ∃ k : Nat, k ≤ 20 ∧ vk = .int .i64 k ∧ Below wq.heap.size wq wr ∧ Blk wr u (bytesV (mk 20 (ub pw salt (q + 1) (j + 1)))) 50 ∧ Blk wr (u + 1) (bytesV (mk 20 fun i => if i < k then tb pw salt (q + 1) (j + 1) i else tb pw salt (q + 1) j i)) 50) (fun k _ => 20 - (intOf k).toNat)
          case atStart => exact ⟨0, by omega, rfl, HB11.out, HU11.out, by rw [mk_congr (g := tb pw salt (q + 1) j) fun i _ => if_neg (by omega)]; exact HT11.out⟩
          case round =>
            clear HB11 HU11 HT11 HB10 HU10 HT10 HBJ HU HT
            obtain ⟨k, hk, rfl, hb, hu', ht'⟩ := hrel
            have HBK := Lib.hid hb; clear hb
            by_cases hk20 : k < 20
            · have cu := hu'.byte k (by rw [mk_length]; exact hk20)
              rw [mk_get hk20] at cu
              have ct := ht'.byte k (by rw [mk_length]; exact hk20)
              rw [mk_get hk20, if_neg (Nat.lt_irrefl k)] at ct
              have ft := ht'.free k
              have HU := Lib.hid hu'; clear hu'
              have HT := Lib.hid ht'; clear ht'
              go_wp2
              refine wp_region_text 9 (by kernel_rfl) (by kernel_rfl) (by kernel_rfl) (by kernel_rfl) fun K hK => ?_
              simp only [List.take_succ_cons, List.take_zero]
              go_wp2
              refine hK _ _ ⟨by rfl, ?_⟩
              clear hK K
              simp only [List.drop_succ_cons, List.drop_zero]
              go_wp2
              go_roundw
              case rel =>
                refine ⟨k + 1, by omega, by go_num, (HBK.out.setCell (by show wq.heap.size ≤ u + 1; omega) _).drew, (HU.out.set_ne (by omega) _ _ _).drew, ?_⟩
                have h := HT.out.setByte k (tb pw salt (q + 1) (j + 1) k)
                rw [mk_step (tb pw salt (q + 1) (j + 1))] at h
                exact h.drew
              case measure => simp [intOf]; omega
            · rw [mk_congr (g := tb pw salt (q + 1) (j + 1)) fun i hi => if_pos (by omega)] at ht'
              have HU := Lib.hid hu'; clear hu'
              have HT := Lib.hid ht'; clear ht'
              go_wp2
              go_roundw
              case rel => exact ⟨j + 1, by have := HJN.out; omega, by go_num, HBK.out, HU.out, HT.out⟩
              case measure => have := HJN.out; simp [intOf]; omega
        · have hjn' : j = n := by omega
          have hoj : OwnB wr w.heap.size 5 (.slice ado (20 * q) capo) (mk (20 * q) (pbk pw salt rounds)) := HO.out.below HBJ.out (Nat.le_refl _)
          have HOJ := Lib.hid hoj; clear hoj
          have hfit : (mk (20 * q) (pbk pw salt rounds)).length + 20 ≤ 140737488355328 := by rw [mk_length]; omega
          have hbase : w.heap.size ≤ wr.heap.size := by omega
          have hnews : ∀ i, i < 20 → wr.cell? ⟨u + 1, 0 + i, none⟩ = some (.int .u8 (((mk 20 (tb pw salt (q + 1) j))[i]?.getD 0).toNat : Int)) := fun i hi => by
            rw [Nat.zero_add]; exact HT.out.byte i (by rw [mk_length]; exact hi)
          have HNEWS := Lib.hid hnews; clear hnews
          have HJ := Lib.hid hjn'; clear hjn'
          have hdj : decide ((j : Int) + 1 < (rounds : Int)) = false := decide_eq_false (by have := HJ.out; have := HRN.out; omega)
          go_wp2_with (refine wpList_appendB rfl _ _ _ rfl w.heap.size 5 (by kernel_rfl) (by kernel_rfl) _ _ rfl HOJ.out (u + 1) 0 20 20 rfl (mk 20 (tb pw salt (q + 1) j)) (mk_length _ _) HNEWS.out hfit hbase ?_; intro vo' w12 ho12 hg12)
          go_roundw
          case rel =>
            refine ⟨q + 1, by go_num, by have := HLT.out; omega, ?_, ?_⟩
            · exact grown_below hg12 (HB.out.trans (HBJ.out.mono (by omega))) hbase fun z hz => (HOJ.out.block z hz).1
            · rw [show 20 * (q + 1) = 20 * q + 20 by omega, mk_append, mk_congr (f := fun j => pbk pw salt rounds (20 * q + j)) (g := tb pw salt (q + 1) j) fun i hi => by
                unfold pbk
                rw [show (20 * q + i) / 20 + 1 = q + 1 by omega, show (20 * q + i) % 20 = i by omega, show rounds - 1 = j by have := HJ.out; have := HN.out; omega]]
              exact ho12
          case measure => have := HLT.out; simp [intOf]; omega
    · have hd : decide (20 * (q : Int) < (long : Int)) = false := decide_eq_false (by omega)
      have hlc : (long : Int) ≤ (capo : Int) := by omega
      have hcut := OwnB.cut (l := mk (20 * q) (pbk pw salt rounds)) (n := long) (by rw [mk_length]; exact HO.out) (by rw [mk_length]; omega)
      rw [mk_take _ _ _ (by omega)] at hcut
      have HC := Lib.hid hcut; clear hcut
      go_wp2
      go_ret2
      exact ⟨_, rfl, HC.out, HB.out⟩
end Go.Proofs.Ytnbjpilanjngmaa.XS
