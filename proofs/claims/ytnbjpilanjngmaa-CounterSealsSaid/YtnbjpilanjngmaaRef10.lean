/- The walks over the reference of layer 10: turns, the whole message. -/
import Derived.Test.YtnbjpilanjngmaaDig4
import Derived.Test.YtnbjpilanjngmaaCtr2
import Derived.Test.YtnbjpilanjngmaaLib4
import Derived.Test.YtnbjpilanjngmaaReg2
namespace Go.Proofs.Ytnbjpilanjngmaa.XS
open Go Go.RowKit

set_option maxHeartbeats 1000000 in
theorem left10_any (x : UInt32) (k : Nat) (hk : 0 < k ∧ k < 32) (w : World) :
    Calls Try.prog 57 #[.int .u32 (x.toNat : Int), .int .i64 (k : Int)] w fun e w' => e = .returned (.int .u32 ((rot x k).toNat : Int)) ∧ w' = w.drew := by
  have hr := Lib.hid (rot_bits x k hk)
  have h32 : k ≤ 32 := by omega
  go_enter Try.func57, Try.ntmps57
  go_wp2
  refine wp_region_reads (by kernel_rfl) (by kernel_rfl) (by kernel_rfl) (by kernel_rfl) fun K hK => ?_
  go_wp2
  refine hK _ _ ⟨by rfl, ?_⟩
  clear hK K
  go_wp2
  go_ret
  rw [← hr.out]
  exact ⟨rfl, rfl⟩

set_option maxHeartbeats 2000000 in
set_option maxRecDepth 100000 in
theorem message10_any (w : World) (v : Value) (l : List UInt8) (hv : RdB w w.heap.size v l) (hl : l.length ≤ 1000000) :
    Calls Try.prog 52 #[v] w fun e w' => ∃ u, e = .returned u ∧ OwnB w' w.heap.size 5 u (padL l) ∧ Below w.heap.size w w' := by
  have HV := Lib.hid hv; clear hv
  obtain ⟨base, cap, rfl, hcp1, hcp2, _, _⟩ := HV.out
  have hmk : ∀ w : World, (Instr.makeSlice 22 (.int .i64 8) (.int .i64 8)).run Try.prog w = .ok (.slice (some ⟨w.heap.size, 0, none⟩) 8 8) (w.alloc (.cells (bytesV (zeros 8)) 5)) := fun w => by
    rw [← made_bytes]
    exact run_make_row' (P := Try.prog) 22 5 (.int .u8 0) 1 Try.underlying22 (by kernel_rfl) rfl .i64 .i64 8 (by omega) (by omega) w
  go_enter Try.func52, Try.ntmps52
  have hlt0 : l.length ≤ 1000000000 := by omega
  go_wp2_with (first
    | (refine wpList_appendS rfl _ _ _ rfl w.heap.size 5 (by kernel_rfl) (by kernel_rfl) _ [] rfl (OwnB.lit _ _ _ (Nat.le_refl _)) _ _ rfl l (HV.out.below ((Below.refl _ _).alloc (Nat.le_refl _) _) (Nat.le_refl _)) l.length (by simp) hlt0 (by simp) ((Below.refl _ _).alloc (Nat.le_refl _) _) ?_; intro b1 c1 w1 ho1 hb1; rw [List.nil_append] at ho1; have hs1 := hb1.size)
    | (refine wpList_append1 rfl _ _ _ rfl w.heap.size 5 (by kernel_rfl) (by kernel_rfl) _ l rfl (ho1.alloc _) w1.heap.size 1 rfl 128 ((Blk.new w1 _ _).cell rfl) l.length rfl hlt0 (by simp; omega) (hb1.alloc hs1 _) ?_; intro g2 c2 w2 ho2 hg2 hg2' hc2 hc2' hb2))
  obtain ⟨Z, hZ⟩ : ∃ Z, Z = zc l.length := ⟨_, rfl⟩
  have hZ64 : Z < 64 := by rw [hZ]; exact zc_lt _
  have HZ := Lib.hid hZ; clear hZ
  obtain ⟨L, hL⟩ : ∃ L, L = l.length := ⟨_, rfl⟩
  have HL := Lib.hid hL
  rw [← hL] at ho2 hc2 hlt0 hl hcp1 ⊢
  have HO2 := Lib.hid ho2; clear ho2
  have HB2 := Lib.hid hb2; clear hb2 hb1 ho1 hs1 hL
  go_loopg [3] Z (fun g v wr => ∃ z q c, z + g = Z ∧ v = .slice (some ⟨q, 0, none⟩) (L + 1 + z) c ∧ w.heap.size ≤ q ∧ q < wr.heap.size ∧ L + 1 + z ≤ c ∧ c ≤ 9223372036854775807 ∧ Below w.heap.size w wr ∧ OwnB wr w.heap.size 5 v (l ++ [128] ++ zeros z))
  case atStart => exact ⟨0, _, _, by omega, rfl, hg2, hg2', hc2, hc2', HB2.out, by rw [show zeros 0 = [] from rfl, List.append_nil]; exact HO2.out⟩
  case round =>
    obtain ⟨z, q, c, hzg, rfl, hq1, hq2, hq3, hq4, hb, ho⟩ := hrel
    have HB := Lib.hid hb; clear hb
    have HO := Lib.hid ho; clear ho
    have hs := HB.out.size
    by_cases hlt : z < Z
    · have hbt : (((L : Int) + 1 + (z : Int)) % 64 != 56) = true := by
        have := zc_stop l.length z (by rw [← HZ.out]; exact hlt)
        rw [← HL.out] at this
        simp; omega
      have hlen : (l ++ [128] ++ zeros z).length = L + 1 + z := by simp [zeros_length, HL.out]; omega
      have HLEN := Lib.hid hlen; clear hlen
      have h9 : L + 1 + z ≤ 1000000000 := by omega
      go_wp2_with (refine wpList_append1 rfl _ _ _ rfl w.heap.size 5 (by kernel_rfl) (by kernel_rfl) _ _ rfl (HO.out.alloc _) wr.heap.size 1 rfl 0 ((Blk.new wr _ _).cell rfl) (L + 1 + z) HLEN.out h9 (by simp; omega) (HB.out.alloc hs _) ?_; intro g3 c3 w3 ho3 hg3 hg3' hc3 hc3' hb3)
      go_roundg (gk - 1)
      case measure => omega
      case rel =>
        refine ⟨z + 1, g3, c3, by omega, rfl, hg3, hg3', hc3, hc3', hb3, ?_⟩
        have e : l ++ [128] ++ zeros (z + 1) = l ++ [128] ++ zeros z ++ [0] := by
          unfold zeros; rw [List.replicate_succ', ← List.append_assoc]
        rw [e]; exact ho3
    · obtain rfl : z = Z := by omega
      have hbt : (((L : Int) + 1 + (z : Int)) % 64 != 56) = false := by
        have := zc_end l.length
        rw [← HL.out] at this
        have e := HZ.out
        rw [← HL.out] at e
        simp; omega
      go_wp2
      have HBA := Lib.hid (HB.out.alloc hs (.cells (bytesV (zeros 8)) 5))
      have HOA := Lib.hid (HO.out.alloc (.cells (bytesV (zeros 8)) 5))
      have HTA := Lib.hid (Blk.new wr (bytesV (zeros 8)) 5)
      clear HO2 HB2 hg2 hg2' hc2 hc2' hmk HB HO
      have hL8 : 8 * L ≤ 8000000 := by omega
      obtain ⟨wq, rfl⟩ : ∃ wq : World, wq = wr := ⟨_, rfl⟩
      go_loopw [4, 6] (fun vn vi wr => ∃ k : Nat, k ≤ 8 ∧ vi = .int .i64 (7 - (k : Int)) ∧ vn = .int .u64 (((8 * L / 2 ^ (8 * k) : Nat)) : Int) ∧ Below w.heap.size w wr ∧ OwnB wr w.heap.size 5 (.slice (some ⟨q, 0, none⟩) (L + 1 + z) c) (l ++ [128] ++ zeros z) ∧ Blk wr wq.heap.size (bytesV (mk 8 fun j => if 8 ≤ j + k then UInt8.ofNat (8 * L / 2 ^ (56 - 8 * j)) else 0)) 5) (fun _ vi _ => (intOf vi + 1).toNat)
      case atStart => exact ⟨0, by omega, rfl, congrArg (Value.int .u64) (by omega), HBA.out, HOA.out, by rw [mk_congr (g := fun _ => 0) fun i hi => if_neg (by omega)]; exact HTA.out⟩
      case round =>
        obtain ⟨k, hk, rfl, rfl, hb, ho, ht⟩ := hrel
        clear HBA HOA HTA
        have HB := Lib.hid hb; clear hb
        have HO := Lib.hid ho; clear ho
        have hs := HB.out.size
        have ht' := ht.lt
        by_cases hlt : k < 8
        · have hd : decide ((k : Int) ≤ 7) = true := decide_eq_true (by omega)
          have f1 := ht.free (7 - k)
          have c1 := ht.byte (7 - k) (by rw [mk_length]; omega)
          have HT := Lib.hid ht; clear ht
          obtain ⟨N, hN⟩ : ∃ N, N = 8 * L / 2 ^ (8 * k) := ⟨_, rfl⟩
          have hN8 : N ≤ 8000000 := by rw [hN]; exact Nat.le_trans (Nat.div_le_self _ _) hL8
          have HN := Lib.hid hN
          rw [← hN]
          clear hN
          have i7 : (7 - (k : Int)).toNat = 7 - k := by omega
          have hbyte : (N : Int) % 256 = ((UInt8.ofNat (8 * L / 2 ^ (56 - 8 * (7 - k)))).toNat : Int) := by
            rw [UInt8.toNat_ofNat', show 56 - 8 * (7 - k) = 8 * k by omega, ← HN.out]; omega
          have HBY := Lib.hid hbyte; clear hbyte
          go_wp2
          go_roundw
          case rel =>
            refine ⟨k + 1, by omega, by go_num, ?_, HB.out.setCell (by omega) _, ?_, ?_⟩
            · rw [HN.out]
              refine congrArg (Value.int .u64) ?_
              rw [show 8 * (k + 1) = 8 * k + 8 by omega, Nat.pow_add, ← Nat.div_div_eq_div_mul]; rfl
            · exact HO.out.same fun b hb => Below.heap_setCell _ _ _ _ (by simp [Value.ownBlock] at hb; subst hb; show q ≠ wq.heap.size; omega)
            · rw [HBY.out]
              have h := HT.out.setByte (7 - k) (UInt8.ofNat (8 * L / 2 ^ (56 - 8 * (7 - k))))
              rw [mk_set] at h
              rw [mk_congr (g := fun i => if i = 7 - k then UInt8.ofNat (8 * L / 2 ^ (56 - 8 * (7 - k))) else if 8 ≤ i + k then UInt8.ofNat (8 * L / 2 ^ (56 - 8 * i)) else 0) fun i hi => by
                by_cases h1 : i = 7 - k
                · subst h1; rw [if_pos (by omega), if_pos rfl]
                · rw [if_neg h1]
                  by_cases h2 : 8 ≤ i + k
                  · rw [if_pos h2, if_pos (by omega)]
                  · rw [if_neg h2, if_neg (by omega)]]
              exact h
          case measure => simp [intOf]; omega
        · obtain rfl : k = 8 := by omega
          have hrt := RdB.ofBlk ht (by rw [mk_length]; omega)
          rw [mk_length] at hrt
          have HRT := Lib.hid hrt; clear hrt ht
          have hlen : (l ++ [128] ++ zeros z).length + (mk 8 fun j => if 8 ≤ j + 8 then UInt8.ofNat (8 * L / 2 ^ (56 - 8 * j)) else 0).length = L + 1 + z + 8 := by simp [zeros_length, mk_length, HL.out]; omega
          have HLEN := Lib.hid hlen; clear hlen
          have h9 : L + 1 + z + 8 ≤ 1000000000 := by omega
          go_wp2_with (refine wpList_appendS rfl _ _ _ rfl w.heap.size 5 (by kernel_rfl) (by kernel_rfl) _ _ rfl HO.out _ _ rfl _ HRT.out (L + 1 + z + 8) HLEN.out h9 hs HB.out ?_; intro b3 c3 w3 ho3 hb3)
          go_ret
          refine ⟨_, rfl, ?_, hb3⟩
          have e : padL l = l ++ [128] ++ zeros z ++ (mk 8 fun j => if 8 ≤ j + 8 then UInt8.ofNat (8 * L / 2 ^ (56 - 8 * j)) else 0) := by
            unfold padL len8
            rw [← HZ.out, ← HL.out, mk_congr (f := fun j => if 8 ≤ j + 8 then UInt8.ofNat (8 * L / 2 ^ (56 - 8 * j)) else 0) (g := fun j => UInt8.ofNat (8 * L / 2 ^ (56 - 8 * j))) fun i hi => if_pos (by omega)]
          rw [e]
          exact ho3
end Go.Proofs.Ytnbjpilanjngmaa.XS
