/- The walks over the reference of layer 11: a key's bytes, a sum with a key. -/
import Derived.Test.YtnbjpilanjngmaaRef10D
import Derived.Test.YtnbjpilanjngmaaMac3
import Derived.Test.YtnbjpilanjngmaaReg4
namespace Go.Proofs.Ytnbjpilanjngmaa.XS
open Go Go.RowKit
attribute [local go_sem] bits_xr

theorem byteAt_pad (k : List UInt8) (h : k.length ≤ 64) : k ++ zeros (64 - k.length) = mk 64 (byteAt k) := by
  refine (mk_self (k ++ zeros (64 - k.length)) 64 (by simp [zeros_length]; omega)).symm.trans (mk_congr fun i hi => ?_)
  unfold byteAt zeros
  by_cases hi : i < k.length
  · rw [List.getElem?_append_left hi]
  · rw [List.getElem?_append_right (by omega), List.getElem?_replicate, List.getElem?_eq_none (by omega : k.length ≤ i)]
    split <;> rfl
set_option maxHeartbeats 2000000 in
set_option maxRecDepth 100000 in
theorem with11_any (w : World) (v : Value) (key : List UInt8) (x : UInt8) (hv : RdB w w.heap.size v key) (hl : key.length ≤ 1000000) :
    Calls Try.prog 44 #[v, .int .u8 (x.toNat : Int)] w fun e w' => ∃ u, e = .returned u ∧ OwnB w' w.heap.size 5 u (hkx key x) ∧ Below w.heap.size w w' := by
  have HV := Lib.hid hv; clear hv
  obtain ⟨base, cap, rfl, hcp1, hcp2, _, _⟩ := HV.out
  have hz20 : ∀ w : World, (zeroValue 50).run Try.prog w = .ok (.agg (bytesV (zeros 20))) w := fun w => by kernel_rfl
  go_enter Try.func44, Try.ntmps44
  have hlt0 : key.length ≤ 1000000000 := by omega
  go_upto_if 13 with (refine wpList_appendS rfl _ _ _ rfl w.heap.size 5 (by kernel_rfl) (by kernel_rfl) _ [] rfl (OwnB.lit _ _ _ (Nat.le_refl _)) _ _ rfl key (HV.out.below ((Below.refl _ _).alloc (Nat.le_refl _) _) (Nat.le_refl _)) key.length (by simp) hlt0 (by simp) ((Below.refl _ _).alloc (Nat.le_refl _) _) ?_; intro b1 c1 w1 ho1 hb1; rw [List.nil_append] at ho1; have hs1 := hb1.size)
  have HO1 := Lib.hid ho1
  have HB1 := Lib.hid hb1
  clear ho1 hb1
  have HN := Lib.hid (hk_length key)
  go_cut [5] (fun v5 wc => Below w.heap.size w wc ∧ OwnB wc w.heap.size 5 v5 (hk key))
  case first =>
    by_cases h64 : 64 < key.length
    · have hd : decide (64 < (key.length : Int)) = true := decide_eq_true (by omega)
      go_wp2_with fail
      refine (sum10_any w1 _ key ((HV.out.below HB1.out (Nat.le_refl _)).mono hs1) hl).mono ?_
      rintro e w2 ⟨rfl, hb2⟩
      have HB2 := Lib.hid (HB1.out.trans (hb2.mono hs1))
      have hs2 := HB2.out.size
      clear hb2
      go_wp2_with (first
        | (refine wpList_storeO rfl _ _ _ rfl w2.heap.size _ _ rfl rfl _ (Blk.new _ _ _) 20 (by kernel_rfl) (by rw [bytesV_size, mk_length]) (by rw [bytesV_size, zeros_length]) (bytesV_one _) ?_; intro w3 ho3 hb3; have HB3 := Lib.hid (ho3.below (HB2.out.alloc hs2 (Obj.cells (bytesV (zeros 20)) 50)) hs2); have HK3 := Lib.hid hb3; have hs3 := HB3.out.size; have hl3 := hb3.lt; clear ho3 hb3)
        | (refine wpList_appendB rfl _ _ _ rfl w.heap.size 5 (by kernel_rfl) (by kernel_rfl) _ [] rfl (OwnB.lit w3 _ _ hs3) w2.heap.size 0 20 20 rfl (mk 20 (sha key)) (mk_length _ _) (fun i hi => by rw [Nat.zero_add]; exact (HK3.out.alloc _).byte i (by rw [mk_length]; exact hi)) (by simp [mk_length]) (by simp; omega) ?_; intro v4 w4 ho4 hg4))
      go_meet
      case rel =>
        refine ⟨grown_below hg4 (HB3.out.alloc hs3 _) (by simp; omega) fun k hk => ?_, ?_⟩
        · have hk' : some w3.heap.size = some k := hk
          have := Option.some.inj hk'; omega
        · unfold hk; rw [if_pos h64]; exact ho4
    · have hd : decide (64 < (key.length : Int)) = false := decide_eq_false (by omega)
      go_wp2
      go_meet
      case rel => exact ⟨HB1.out, by unfold hk; rw [if_neg h64]; exact HO1.out⟩
  case rest =>
    obtain ⟨hb, ho⟩ := hcut
    have HB := Lib.hid hb; clear hb HO1 HB1 hs1
    obtain ⟨ad, cp, rfl, _, _⟩ := ho.form0
    have HO := Lib.hid ho; clear ho
    obtain ⟨k, hk0⟩ : ∃ k, k = hk key := ⟨_, rfl⟩
    have hxe : hkx key x = mk 64 fun i => xr (byteAt k i) x := by rw [hk0]; rfl
    have HX := Lib.hid hxe
    rw [← hk0] at HO HN
    rw [← hk0]
    clear hxe hk0
    go_wp2
    go_loopw [5] (fun v5 wr => ∃ z ad cp, k.length + z ≤ 64 ∧ v5 = .slice ad (k.length + z) cp ∧ Below w.heap.size w wr ∧ OwnB wr w.heap.size 5 v5 (k ++ zeros z)) (fun v5 _ => match v5 with | .slice _ n _ => 64 - n | _ => 0)
    case atStart => exact ⟨0, _, _, by have := HN.out; omega, rfl, HB.out, by rw [show zeros 0 = [] from rfl, List.append_nil]; exact HO.out⟩
    case round =>
      clear HB HO
      obtain ⟨z, ad2, cp2, hz, rfl, hb, ho⟩ := hrel
      have HB := Lib.hid hb; clear hb
      have HO := Lib.hid ho; clear ho
      have hs := HB.out.size
      by_cases hlt : k.length + z < 64
      · have hd : decide ((k.length : Int) + (z : Int) < 64) = true := decide_eq_true (by omega)
        have hlen : (k ++ zeros z).length = k.length + z := by simp [zeros_length]
        have h9 : k.length + z ≤ 1000000000 := by omega
        have HLEN := Lib.hid hlen; clear hlen
        go_wp2_with (refine wpList_append1 rfl _ _ _ rfl w.heap.size 5 (by kernel_rfl) (by kernel_rfl) _ _ rfl (HO.out.alloc _) wr.heap.size 1 rfl 0 ((Blk.new wr _ _).cell rfl) (k.length + z) HLEN.out h9 (by simp; omega) (HB.out.alloc hs _) ?_; intro g3 c3 w3 ho3 hg3 hg3' hc3 hc3' hb3)
        go_roundw
        case rel =>
          refine ⟨z + 1, some ⟨g3, 0, none⟩, c3, by omega, by rw [Nat.add_assoc], hb3, ?_⟩
          have e : k ++ zeros (z + 1) = k ++ zeros z ++ [0] := by unfold zeros; rw [List.replicate_succ', ← List.append_assoc]
          rw [e]; exact ho3
        case measure => simp; omega
      · have hd : decide ((k.length : Int) + (z : Int) < 64) = false := decide_eq_false (by omega)
        obtain rfl : z = 64 - k.length := by omega
        have hlk := HN.out
        rw [show k.length + (64 - k.length) = 64 by omega] at HO ⊢
        rw [byteAt_pad k hlk] at HO
        obtain ⟨g, cp, he, hg1, hg2, hg3, hg4⟩ := HO.out.form (by rw [mk_length]; omega)
        rw [mk_length] at he hg3
        obtain ⟨rfl, rfl⟩ : ad2 = some ⟨g, 0, none⟩ ∧ cp2 = cp := by simpa using he
        clear he
        have HO2 := Lib.hid HO.out
        have HL := Lib.hid (mk_length 64 (byteAt k))
        clear HO hz hd
        go_wp2
        obtain ⟨wo, rfl⟩ : ∃ wo : World, wo = wr := ⟨_, rfl⟩
        go_loopw [7] (fun vi wr => ∃ i : Nat, i ≤ 64 ∧ vi = .int .i64 i ∧ Below w.heap.size w wr ∧ OwnB wr w.heap.size 5 (.slice (some ⟨g, 0, none⟩) 64 cp2) (mk 64 fun p => if p < i then xr (byteAt k p) x else byteAt k p)) (fun i _ => 64 - (intOf i).toNat)
        case atStart => exact ⟨0, by omega, rfl, HB.out, by rw [mk_congr (g := byteAt k) fun i _ => if_neg (by omega)]; exact HO2.out⟩
        case round =>
          clear HB HO2 hs hg2
          obtain ⟨i, hi, rfl, hb, ho⟩ := hrel
          have HB := Lib.hid hb; clear hb
          by_cases hlt2 : i < 64
          · have hd2 : decide ((i : Int) < 64) = true := decide_eq_true (by omega)
            have ho' := ho
            rw [show (64 : Nat) = (mk 64 fun p => if p < i then xr (byteAt k p) x else byteAt k p).length from (mk_length _ _).symm] at ho'
            have c1 := ho'.cell (j := i) (by rw [mk_length]; exact hlt2)
            rw [mk_get hlt2, if_neg (Nat.lt_irrefl i)] at c1
            have f1 := ho'.free i
            have st := ho'.stored i (xr (byteAt k i) x)
            rw [mk_length] at st
            have HST := Lib.hid st
            clear ho ho' st
            go_wp2
            refine ⟨⟨i + 1, by omega, by go_num, HB.out.setCell (by show w.heap.size ≤ g; exact hg1) _, ?_⟩, by simp [intOf]; omega⟩
            have h := HST.out
            rw [mk_step (fun p => xr (byteAt k p) x)] at h
            exact h
          · obtain rfl : i = 64 := by omega
            rw [mk_congr (g := fun i => xr (byteAt k i) x) fun i hi => if_pos hi, ← HX.out] at ho
            go_wp2
            go_ret
            exact ⟨_, rfl, ho, HB.out⟩

set_option maxHeartbeats 2000000 in
set_option maxRecDepth 100000 in
theorem sum11_any (w : World) (vk v : Value) (key b : List UInt8) (hk : RdB w w.heap.size vk key) (hb : RdB w w.heap.size v b) (hlk : key.length ≤ 1000000) (hlb : b.length ≤ 900000) :
    Calls Try.prog 29 #[vk, v] w fun e w' => e = .returned (.agg (bytesV (mk 20 (hmac key b)))) ∧ Below w.heap.size w w' := by
  have HK := Lib.hid hk; clear hk
  have HV := Lib.hid hb; clear hb
  have hz20 : ∀ w : World, (zeroValue 50).run Try.prog w = .ok (.agg (bytesV (zeros 20))) w := fun w => by kernel_rfl
  go_enter Try.func29, Try.ntmps29
  have HB0 := Lib.hid ((Below.refl w.heap.size w).alloc (Nat.le_refl _) (Obj.cells (bytesV (zeros 20)) 50))
  have K0 := Lib.hid (Blk.new w (bytesV (zeros 20)) 50)
  have hz : (w.alloc (Obj.cells (bytesV (zeros 20)) 50)).heap.size = w.heap.size + 1 := by simp
  go_wp2_with fail
  refine (with11_any _ vk key 54 ((HK.out.below HB0.out (Nat.le_refl _)).mono (by omega)) hlk).mono ?_
  rintro e w1 ⟨u, rfl, ho1, hb1⟩
  rw [hz] at ho1 hb1
  have HO1 := Lib.hid ho1
  have HB1 := Lib.hid (HB0.out.trans (hb1.mono (Nat.le_succ _)))
  have K1 := Lib.hid (K0.out.below hb1 (Nat.lt_succ_self _))
  have hs1 := hb1.size
  rw [hz] at hs1
  clear hb1 ho1
  have hl1 : (hkx key 54).length + b.length ≤ 140737488355328 := by rw [show (hkx key 54).length = 64 from mk_length _ _]; omega
  go_wp2_with (refine wpList_appendR rfl _ _ _ rfl (w.heap.size + 1) 5 (by kernel_rfl) (by kernel_rfl) _ (hkx key 54) rfl HO1.out v w.heap.size rfl b (HV.out.below HB1.out (Nat.le_refl _)) hl1 hs1 ?_; intro v2 w2 ho2 hg2)
  have hb2 : Below (w.heap.size + 1) w1 w2 := grown_below hg2 (Below.refl _ _) hs1 fun k hk => (HO1.out.block k hk).1
  have HB2 := Lib.hid (HB1.out.trans (hb2.mono (Nat.le_succ _)))
  have K2 := Lib.hid (K1.out.below hb2 (Nat.lt_succ_self _))
  have HR2 := Lib.hid ho2.rd
  have hs2 := hb2.size
  clear hb2 hg2 ho2
  refine (sum10_any w2 v2 _ HR2.out (by rw [List.length_append, show (hkx key 54).length = 64 from mk_length _ _]; omega)).mono ?_
  rintro e w3 ⟨rfl, hb3⟩
  have HB3 := Lib.hid (HB2.out.trans (hb3.mono (by omega)))
  have K3 := Lib.hid (K2.out.below hb3 (by omega))
  have hs3 := hb3.size
  clear hb3
  obtain ⟨inner, hin⟩ : ∃ inner, inner = mk 20 (sha (hkx key 54 ++ b)) := ⟨_, rfl⟩
  have HIN := Lib.hid hin
  have hil : inner.length = 20 := by rw [hin]; exact mk_length _ _
  rw [← hin]
  clear hin
  have HIL := Lib.hid hil; clear hil
  have hs3' : w.heap.size ≤ w3.heap.size := by omega
  go_wp2_with (refine wpList_storeO rfl _ _ _ rfl w3.heap.size _ _ rfl rfl _ (Blk.new _ _ _) 20 (by kernel_rfl) (by rw [bytesV_size, HIL.out]) (by rw [bytesV_size, zeros_length]) (bytesV_one _) ?_; intro w4 ho4 hb4; have HB4 := Lib.hid (ho4.below (HB3.out.alloc hs3' (Obj.cells (bytesV (zeros 20)) 50)) hs3'); have K4 := Lib.hid (ho4.blk (K3.out.alloc _) (by omega)); have KI := Lib.hid hb4; clear ho4 hb4)
  simp only [Act.put]
  have hs4 := HB4.out.size
  have hlk := HK.out.below HB4.out (Nat.le_refl _)
  have HK4 := Lib.hid hlk; clear hlk
  have hl2' : (hkx key 92).length + 20 ≤ 140737488355328 := by rw [show (hkx key 92).length = 64 from mk_length _ _]; omega
  refine wp_region_flex 6 (by kernel_rfl) rfl ?_
  refine flex_pure 2 (.slice (some ⟨w3.heap.size, 0, none⟩) 20 20) #[false, false, true, false, false, false] rfl (by kernel_rfl) (by kernel_rfl) (fun w => by kernel_rfl) ?_
  refine flex_seq [0, 1, 3, 4, 5] (l := [_, _, _, _, _]) rfl (by kernel_rfl) ?_
  go_wp2_with fail
  refine (with11_any w4.drew vk key 92 (HK4.out.mono hs4) hlk).mono ?_
  rintro e w5 ⟨u5, rfl, ho5, hb5⟩
  have hs5 := hb5.size
  have hdw : w4.drew.heap.size = w4.heap.size := rfl
  rw [hdw] at hs5 ho5 hb5
  clear hdw
  have HB5 := Lib.hid (HB4.out.drew.trans (hb5.mono hs4))
  have HO5 := Lib.hid ho5
  have K5 := Lib.hid (Blk.below (Blk.drew K4.out) hb5 K4.out.lt)
  have KI5 := Lib.hid (Blk.below (Blk.drew KI.out) hb5 KI.out.lt)
  clear hb5 ho5
  go_wp2_with (refine wpList_appendB rfl _ _ _ rfl w4.heap.size 5 (by kernel_rfl) (by kernel_rfl) _ (hkx key 92) rfl HO5.out w3.heap.size 0 20 20 rfl inner HIL.out (fun i hi => by rw [Nat.zero_add]; exact KI5.out.byte i (by rw [HIL.out]; exact hi)) hl2' hs5 ?_; intro v6 w6 ho6 hg6)
  have hb6 : Below w4.heap.size w5 w6 := grown_below hg6 (Below.refl _ _) hs5 fun k hk => (HO5.out.block k hk).1
  have HB6 := Lib.hid (HB5.out.trans (hb6.mono hs4))
  have K6 := Lib.hid (K5.out.below hb6 K4.out.lt)
  have HR6 := Lib.hid ho6.rd
  have hs6 := hb6.size
  clear hb6 hg6 ho6
  refine (sum10_any w6 v6 _ HR6.out (by rw [List.length_append, HIL.out, show (hkx key 92).length = 64 from mk_length _ _]; omega)).mono ?_
  rintro e w7 ⟨rfl, hb7⟩
  have HB7 := Lib.hid (HB6.out.trans (hb7.mono (by omega)))
  have K7 := Lib.hid (K6.out.below hb7 (by have := K4.out.lt; omega))
  clear hb7
  have e : sha (hkx key 92 ++ inner) = hmac key b := by rw [HIN.out, ← sha_hmac]
  rw [e]
  clear e
  go_wp2_with (refine wpList_storeR rfl _ _ _ rfl w.heap.size _ _ rfl rfl _ K7.out 20 (by kernel_rfl) (by rw [bytesV_size, mk_length]) (by rw [bytesV_size, zeros_length]) (bytesV_one _) ?_)
  apply_assumption
  go_wp2
  exact ret_row rfl w.heap.size (bytesV (mk 20 (hmac key b))) 50 rfl (K7.out.row _) (by kernel_rfl) 20 (by kernel_rfl) (by rw [bytesV_size, mk_length]) rfl ⟨rfl, Below.row HB7.out (Nat.le_refl _) _⟩
end Go.Proofs.Ytnbjpilanjngmaa.XS
