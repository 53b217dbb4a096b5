/- The walks over package digest, fourth part: the sum. -/
import Derived.Test.YtnbjpilanjngmaaDig3
namespace Go.Proofs.Ytnbjpilanjngmaa.XS
open Go Go.RowKit

/-- While the sum is taken: the result's block, and the copy's, to which msg was written. -/
structure SumI (w w' : World) (msg : List UInt8) : Prop where
  below : Below w.heap.size w w'
  res : Blk w' w.heap.size (bytesV (zeros 20)) 50
  hash : ∃ cs, Blk w' (w.heap.size + 1) cs 68 ∧ RepH msg cs
theorem SumI.write {w w1 w2 : World} {msg l : List UInt8} (h : SumI w w1 msg) (o : Obj) (hg : (w1.alloc o).grownBy w2 (some (w.heap.size + 1))) (hc : ∃ cs', Blk w2 (w.heap.size + 1) cs' 68 ∧ RepH (msg ++ l) cs') : SumI w w2 (msg ++ l) := by
  have hlt := h.res.lt
  refine ⟨G.toBelow hg (h.below.alloc h.below.size o) (by simp; omega) (by omega), ?_, hc⟩
  exact grown_blk hg (h.res.alloc o) (fun e => by have := Option.some.inj e; omega)
theorem zc_lt (n : Nat) : zc n < 64 := by unfold zc; omega
theorem zc_stop (n z : Nat) (h : z < zc n) : (n + 1 + z) % 64 ≠ 56 := by unfold zc at h; omega
theorem zc_end (n : Nat) : (n + 1 + zc n) % 64 = 56 := by unfold zc; omega
theorem len8_byte (n i : Nat) : (n : Int) * 8 / 2 ^ (56 - 8 * i) % 256 = ((UInt8.ofNat (8 * n / 2 ^ (56 - 8 * i))).toNat : Int) := by
  rw [UInt8.toNat_ofNat', Int.natCast_emod]
  have e : ((8 * n / 2 ^ (56 - 8 * i) : Nat) : Int) = (n : Int) * 8 / 2 ^ (56 - 8 * i) := by
    rw [Int.natCast_ediv, Int.natCast_pow, Int.natCast_mul, Int.mul_comm]; rfl
  rw [e]; rfl
theorem outB_byte (s : S5) (i k : Nat) (hk : k < 4) : ((s.at i).toNat : Int) / 2 ^ (24 - 8 * k) % 256 = ((outB s (4 * i + k)).toNat : Int) := by
  unfold outB
  rw [UInt8.toNat_ofNat', Int.natCast_emod, show (4 * i + k) / 4 = i by omega, show (4 * i + k) % 4 = k by omega, Int.natCast_ediv, Int.natCast_pow]; rfl

set_option maxHeartbeats 2000000 in
set_option maxRecDepth 100000 in
theorem dsumm_any (hb : Nat) (m : List UInt8) (cs : Array Value) (w : World) (h : Blk w hb cs 68) (hrep : RepH m cs) (hlen : m.length ≤ 140737488360000) :
    Calls Try.prog 51 #[.pointer (some ⟨hb, 0, none⟩)] w fun e w' => e = .returned (.agg (bytesV (mk 20 (sha m)))) ∧ Below w.heap.size w w' := by
  have hsz := hrep.size
  have hz : ∀ w : World, (zeroValue 50).run Try.prog w = .ok (.agg (bytesV (zeros 20))) w := fun w => by kernel_rfl
  have hzh : ∀ w : World, (zeroValue 68).run Try.prog w = .ok (.agg (hV ⟨0, 0, 0, 0, 0⟩ (fun _ => 0) 0 0)) w := fun w => by kernel_rfl
  have H := Lib.hid (h.alloc (.cells (bytesV (zeros 20)) 50))
  have H' := Lib.hid (H.out.alloc (.cells (hV ⟨0, 0, 0, 0, 0⟩ (fun _ => 0) 0 0) 68)); clear h
  have h1c : cs.all (·.oneCell') = true := by
    obtain ⟨wt, _, rfl⟩ := hrep
    rw [Array.all_eq_true]
    intro i hi
    have h := hV_get (st m) wt (m.length % 64) m.length i
    rw [Array.getElem?_eq_getElem hi] at h
    split at h
    · rw [Option.some.inj h]; rfl
    · split at h
      · rw [Option.some.inj h]; rfl
      · split at h
        · rw [Option.some.inj h]; rfl
        · split at h
          · rw [Option.some.inj h]; rfl
          · cases h
  have HREP := Lib.hid hrep; clear hrep
  go_enter Try.func51, Try.ntmps51
  go_upto_region 2 with (first
    | (refine wpList_loadR rfl _ _ rfl hb _ rfl _ H'.out (by kernel_rfl) 71 (by kernel_rfl) hsz ?_)
    | (refine wpList_loadR rfl _ _ rfl hb _ rfl _ H.out (by kernel_rfl) 71 (by kernel_rfl) hsz ?_)
    | (refine wpList_storeO rfl _ _ _ rfl (w.heap.size + 1) _ _ rfl rfl _ (Blk.new' (by simp) _ _) 71 (by kernel_rfl) hsz (by rw [hV_size]) h1c ?_; intro w2 ho2 hb2))
  have HB2 := Lib.hid (ho2.below (((Below.refl w.heap.size w).alloc (Nat.le_refl _) (Obj.cells (bytesV (zeros 20)) 50)).alloc (by simp) (Obj.cells (hV ⟨0, 0, 0, 0, 0⟩ (fun _ => 0) 0 0) 68)) (by omega))
  have hI : SumI w w2 m := ⟨HB2.out, ho2.blk ((Blk.new w _ _).alloc _) (by omega), ⟨cs, hb2, HREP.out⟩⟩
  have HI := Lib.hid hI
  clear ho2 hI
  have c70 : w2.cell? ⟨w.heap.size + 1, 70, none⟩ = some (.int .u64 (m.length : Int)) := by
    obtain ⟨wt, _, hcs⟩ := HREP.out
    rw [hcs] at hb2
    exact hb2.cell (by rw [hV_get]; rfl)
  have HC2 := Lib.hid hb2; clear hb2 HB2
  have hsz2 := HC2.out.lt
  simp only [Act.put]
  go_wp2_with fail
  refine (dwrite_any (w.heap.size + 1) m [128] _ cs _ (HC2.out.alloc _) HREP.out (RdX.ofBlk (l := [128]) (Blk.new _ _ _) (by omega) (by simp)) (by simp; omega)).mono ?_
  rintro e w3 ⟨rfl, hc3, hg3⟩
  have HI3 := Lib.hid (HI.out.write _ hg3 hc3)
  clear hc3 hg3 c70 hsz2
  obtain ⟨Z, hZ⟩ : ∃ Z, Z = zc m.length := ⟨_, rfl⟩
  have hZ64 : Z < 64 := by rw [hZ]; exact zc_lt _
  have HZ := Lib.hid hZ; clear hZ
  go_wp2
  go_loopg [] Z (fun g wr => ∃ z, z + g = Z ∧ SumI w wr (m ++ [128] ++ zeros z))
  case atStart => exact ⟨0, by omega, by rw [show zeros 0 = [] from rfl, List.append_nil]; exact HI3.out⟩
  case round =>
    obtain ⟨z, hzg, hI⟩ := hrel
    have HIz := Lib.hid hI; clear hI
    obtain ⟨cz, hcz, hrz⟩ := HIz.out.hash
    have hlenz : (m ++ [128] ++ zeros z).length = m.length + 1 + z := by simp [zeros_length]; omega
    have c69 : wr.cell? ⟨w.heap.size + 1, 69, none⟩ = some (.int .i64 (((m.length + 1 + z) % 64 : Nat) : Int)) := by
      obtain ⟨wt, _, hcs⟩ := hrz
      rw [hcs] at hcz
      rw [← hlenz]
      exact hcz.cell (by rw [hV_get]; rfl)
    have hszr := hcz.lt
    have HCZ := Lib.hid hcz; clear hcz
    have HRZ := Lib.hid hrz; clear hrz hlenz
    by_cases hlt : z < Z
    · have hb : ((((m.length + 1 + z) % 64 : Nat) : Int) != 56) = true := by
        have := zc_stop m.length z (by rw [← HZ.out]; exact hlt)
        simp; omega
      generalize (((m.length + 1 + z) % 64 : Nat) : Int) = q at *
      go_wp2_with fail
      refine (dwrite_any (w.heap.size + 1) (m ++ [128] ++ zeros z) [0] _ cz _ (HCZ.out.alloc _) HRZ.out (RdX.ofBlk (l := [0]) (Blk.new _ _ _) (by omega) (by simp)) (by simp [zeros_length]; omega)).mono ?_
      rintro e w4 ⟨rfl, hc4, hg4⟩
      have HI4 := Lib.hid (HIz.out.write _ hg4 hc4)
      clear hc4 hg4
      go_wp2
      go_roundg (gk - 1)
      case measure => omega
      case rel =>
        refine ⟨z + 1, by omega, ?_⟩
        have e : m ++ [128] ++ zeros (z + 1) = m ++ [128] ++ zeros z ++ [0] := by
          unfold zeros; rw [List.replicate_succ', ← List.append_assoc]
        rw [e]; exact HI4.out
    · have hze : z = Z := by omega
      have hb : ((((m.length + 1 + z) % 64 : Nat) : Int) != 56) = false := by
        have := zc_end m.length
        rw [hze, HZ.out]
        simp; omega
      have HIE : Hid (SumI w wr (m ++ [128] ++ zeros Z)) := by rw [hze] at HIz; exact HIz
      clear HCZ HRZ HIz hze
      generalize (((m.length + 1 + z) % 64 : Nat) : Int) = q at *
      go_wp2
      go_loopw [23] (fun vi wr => ∃ i : Nat, i ≤ 8 ∧ vi = .int .i64 i ∧ SumI w wr (m ++ [128] ++ zeros Z ++ mk i fun i => UInt8.ofNat (8 * m.length / 2 ^ (56 - 8 * i)))) (fun i _ => 8 - (intOf i).toNat)
      case atStart => exact ⟨0, by omega, rfl, by rw [show (mk 0 fun i => UInt8.ofNat (8 * m.length / 2 ^ (56 - 8 * i))) = [] from rfl, List.append_nil]; exact HIE.out⟩
      case round =>
        clear HIE
        obtain ⟨i, hi, rfl, hI⟩ := hrel
        have HIi := Lib.hid hI; clear hI
        obtain ⟨ci, hci, hri⟩ := HIi.out.hash
        have hszr := hci.lt
        have HCI := Lib.hid hci; clear hci
        have HRI := Lib.hid hri; clear hri
        by_cases hlt8 : i < 8
        · go_wp2_with fail
          rw [len8_byte m.length i]
          have hf8 := mk_snoc i fun i => UInt8.ofNat (8 * m.length / 2 ^ (56 - 8 * i))
          have HF := Lib.hid hf8; clear hf8
          refine (dwrite_any (w.heap.size + 1) (m ++ [128] ++ zeros Z ++ mk i fun i => UInt8.ofNat (8 * m.length / 2 ^ (56 - 8 * i))) [UInt8.ofNat (8 * m.length / 2 ^ (56 - 8 * i))] _ ci _ (HCI.out.alloc _) HRI.out (RdX.ofBlk (l := [UInt8.ofNat (8 * m.length / 2 ^ (56 - 8 * i))]) (Blk.new _ _ _) (by omega) (by simp)) (by simp [zeros_length, mk_length]; omega)).mono ?_
          rintro e w4 ⟨rfl, hc4, hg4⟩
          have HI4 := Lib.hid (HIi.out.write _ hg4 hc4)
          clear hc4 hg4
          go_wp2
          go_roundw
          case rel =>
            refine ⟨i + 1, by omega, by go_num, ?_⟩
            rw [HF.out, ← List.append_assoc]
            exact HI4.out
          case measure => simp [intOf]; omega
        · have HIF : Hid (SumI w wr (padL m) ∧ Blk wr (w.heap.size + 1) ci 68 ∧ RepH (padL m) ci) := by
            have e : m ++ [128] ++ zeros Z ++ (mk i fun i => UInt8.ofNat (8 * m.length / 2 ^ (56 - 8 * i))) = padL m := by
              unfold padL len8; rw [← HZ.out, show i = 8 by omega]
            refine ⟨?_, HCI.out, ?_⟩
            · rw [← e]; exact HIi.out
            · rw [← e]; exact HRI.out
          clear HIi HCI HRI
          obtain ⟨hIF, hcf, hrf⟩ := HIF.out
          obtain ⟨wt, _, hcs⟩ := hrf
          have HST : Hid (∀ j v, ((List.range 5).map fun i => u32V ((st (padL m)).at i))[j]? = some v → (wr.alloc (.cells (bytesV (zeros 20)) 50)).cell? ⟨w.heap.size + 1, 0 + j, none⟩ = some v) := fun j v hj => by
            rw [hcs] at hcf
            refine (hcf.alloc _).cell ?_
            rw [hV_get, Nat.zero_add]
            by_cases h5 : j < 5
            · rw [if_pos h5]
              rw [List.getElem?_map, List.getElem?_range h5] at hj
              exact hj
            · rw [List.getElem?_eq_none (by simp; omega)] at hj; cases hj
          have HR := Lib.hid hIF.res
          have HB := Lib.hid hIF.below
          have hlt3 : w.heap.size < wr.heap.size := HR.out.lt
          clear hIF hcf hcs HIF
          go_wp2_with (refine wpList_loadA rfl _ _ rfl (w.heap.size + 1) 0 rfl (by kernel_rfl) ((List.range 5).map fun i => u32V ((st (padL m)).at i)) (by kernel_rfl) HST.out ?_)
          obtain ⟨wq, rfl⟩ : ∃ wq : World, wq = wr := ⟨_, rfl⟩
          have hv5 : ∀ k : Nat, k < 5 → (#[u32V ((st (padL m)).at 0), u32V ((st (padL m)).at 1), u32V ((st (padL m)).at 2), u32V ((st (padL m)).at 3), u32V ((st (padL m)).at 4)] : Array Value)[((k : Int)).toNat]? = some (.int .u32 (((st (padL m)).at k).toNat : Int)) := fun k hk => by
            rcases (by omega : k = 0 ∨ k = 1 ∨ k = 2 ∨ k = 3 ∨ k = 4) with rfl | rfl | rfl | rfl | rfl <;> rfl
          have HV5 := Lib.hid hv5; clear hv5
          go_loopw [37] (fun vk wr => ∃ k : Nat, k ≤ 5 ∧ vk = .int .i64 k ∧ Below w.heap.size w wr ∧ Blk wr w.heap.size (bytesV (zeros 20)) 50 ∧ Blk wr wq.heap.size (bytesV (mk 20 fun j => if j < 4 * k then sha m j else 0)) 50) (fun k _ => 5 - (intOf k).toNat)
          case atStart => exact ⟨0, by omega, rfl, HB.out.alloc HB.out.size _, HR.out.alloc _, Blk.new _ _ _⟩
          case round =>
            clear HB HR
            obtain ⟨k, hk, rfl, hb, hr, ho⟩ := hrel
            have HB := Lib.hid hb; clear hb
            have HR := Lib.hid hr; clear hr
            by_cases hk5 : k < 5
            · have hdk : decide ((k : Int) < 5) = true := decide_eq_true (by omega)
              go_wp2_with (refine wpList_indexA rfl _ _ _ rfl _ rfl .i64 (k : Int) rfl 5 64 (by kernel_rfl) (by kernel_rfl) (by omega) (by omega) (.int .u32 (((st (padL m)).at k).toNat : Int)) (HV5.out k hk5) ?_)
              obtain ⟨wp, rfl⟩ : ∃ wp : World, wp = wr := ⟨_, rfl⟩
              go_loopw [41] (fun vq wr => ∃ q : Nat, q ≤ 4 ∧ vq = .int .i64 q ∧ Below w.heap.size w wr ∧ Blk wr w.heap.size (bytesV (zeros 20)) 50 ∧ Blk wr wq.heap.size (bytesV (mk 20 fun j => if j < 4 * k + q then sha m j else 0)) 50) (fun q _ => 4 - (intOf q).toNat)
              case atStart => exact ⟨0, by omega, rfl, HB.out, HR.out, ho⟩
              case round =>
                clear HB HR ho
                obtain ⟨q, hq, rfl, hb, hr, ho⟩ := hrel
                have HB := Lib.hid hb; clear hb
                have HR := Lib.hid hr; clear hr
                by_cases hq4 : q < 4
                · have c1 := ho.byte (4 * k + q) (by rw [mk_length]; omega)
                  have f1 := ho.free (4 * k + q)
                  have HO := Lib.hid ho; clear ho
                  have hob := Lib.hid (outB_byte (st (padL m)) k q hq4)
                  go_wp2
                  go_roundw
                  case rel =>
                    rw [hob.out]
                    refine ⟨q + 1, by omega, by go_num, HB.out.setCell (by show w.heap.size ≤ wq.heap.size; omega) _, HR.out.set_ne (by omega) _ _ _, ?_⟩
                    have h := HO.out.setByte (4 * k + q) (sha m (4 * k + q))
                    rw [mk_step] at h
                    exact h
                  case measure => simp [intOf]; omega
                · have hq4' := Lib.hid (by omega : q = 4)
                  go_wp2
                  go_roundw
                  case rel =>
                    refine ⟨k + 1, by omega, by go_num, HB.out, HR.out, ?_⟩
                    rw [hq4'.out] at ho
                    exact ho
                  case measure => simp [intOf]; omega
            · have hk5' := Lib.hid (by omega : k = 5)
              rw [mk_congr (g := sha m) fun i hi => if_pos (by omega)] at ho
              have HO := Lib.hid ho; clear ho
              go_wp2_with (first
                | (refine wpList_loadR rfl _ _ rfl wq.heap.size _ rfl _ HO.out (by kernel_rfl) 20 (by kernel_rfl) (by rw [bytesV_size, mk_length]) ?_)
                | (refine wpList_storeR rfl _ _ _ rfl w.heap.size _ _ rfl rfl _ HR.out 20 (by kernel_rfl) (by rw [bytesV_size, mk_length]) (by rw [bytesV_size, zeros_length]) (bytesV_one _) ?_))
              exact ret_row rfl w.heap.size _ _ rfl (HR.out.row _) (by kernel_rfl) 20 (by kernel_rfl) (by rw [bytesV_size, mk_length]) rfl ⟨rfl, Below.row HB.out (Nat.le_refl _) _⟩

set_option maxHeartbeats 1000000 in
set_option maxRecDepth 100000 in
theorem dsum_any (m : List UInt8) (v : Value) (B : Nat) (w : World) (hB : B ≤ w.heap.size) (hv : RdB w B v m) (hlen : m.length ≤ 140737488360000) :
    Calls Try.prog 54 #[v] w fun e w' => e = .returned (.agg (bytesV (mk 20 (sha m)))) ∧ Below w.heap.size w w' := by
  have HV := Lib.hid hv; clear hv
  have hz : ∀ w : World, (zeroValue 50).run Try.prog w = .ok (.agg (bytesV (zeros 20))) w := fun w => by kernel_rfl
  go_enter Try.func54, Try.ntmps54
  have HB0 := Lib.hid ((Below.refl w.heap.size w).alloc (Nat.le_refl _) (Obj.cells (bytesV (zeros 20)) 50))
  go_wp2_with fail
  refine (dnew_any _).mono ?_
  rintro e w1 ⟨rfl, hb1, hbel1⟩
  have HB1 := Lib.hid (HB0.out.trans (hbel1.mono (by simp)))
  have HR1 := Lib.hid ((Blk.new w (bytesV (zeros 20)) 50).below hbel1 (by simp))
  have HH := Lib.hid hb1; clear hb1 hbel1
  have HV1 := Lib.hid ((HV.out.below HB1.out hB).toX (g := (w.alloc (Obj.cells (bytesV (zeros 20)) 50)).heap.size) (by simp; omega) (Nat.le_trans hB HB1.out.size))
  have hsz : (w.alloc (Obj.cells (bytesV (zeros 20)) 50)).heap.size = w.heap.size + 1 := by simp
  rw [hsz] at HH HV1 ⊢
  go_wp2_with fail
  refine (dwrite_any (w.heap.size + 1) [] m v _ _ HH.out RepH.new HV1.out (by simp; omega)).mono ?_
  rintro e w2 ⟨rfl, ⟨cs, hc, hrep⟩, hg⟩
  rw [List.nil_append] at hrep
  have HB2 := Lib.hid (G.toBelow hg HB1.out HB1.out.size (by omega))
  have HR2 := Lib.hid (grown_blk hg HR1.out (fun e => by have := Option.some.inj e; omega))
  have HC := Lib.hid hc; clear hc hg
  have HREP := Lib.hid hrep; clear hrep
  go_wp2_with fail
  refine (dsumm_any (w.heap.size + 1) m cs _ HC.out HREP.out hlen).mono ?_
  rintro e w3 ⟨rfl, hb3⟩
  have HB3 := Lib.hid (HB2.out.trans (hb3.mono HB2.out.size))
  have HR3 := Lib.hid (HR2.out.below hb3 HR2.out.lt)
  clear hb3
  go_wp2_with (refine wpList_storeR rfl _ _ _ rfl w.heap.size _ _ rfl rfl _ HR3.out 20 (by kernel_rfl) (by rw [bytesV_size, mk_length]) (by rw [bytesV_size, zeros_length]) (bytesV_one _) ?_)
  exact ret_row rfl w.heap.size _ _ rfl (HR3.out.row _) (by kernel_rfl) 20 (by kernel_rfl) (by rw [bytesV_size, mk_length]) rfl ⟨rfl, Below.row HB3.out (Nat.le_refl _) _⟩
end Go.Proofs.Ytnbjpilanjngmaa.XS
