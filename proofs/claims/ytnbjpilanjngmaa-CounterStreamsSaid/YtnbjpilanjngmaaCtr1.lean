/- The walks over package counter, first part: the stream. -/
import Derived.Test.YtnbjpilanjngmaaCipher6
import Derived.Test.YtnbjpilanjngmaaMac3
import Derived.Deep.OwnRows
import Derived.WalkMore
namespace Go.Proofs.Ytnbjpilanjngmaa.XS
open Go Go.RowKit
attribute [local go_sem] bits_xr

/-- The number of a block, as sixteen bytes. -/
def ctr (n i : Nat) : UInt8 := if i < 8 then UInt8.ofNat (n / 2 ^ (8 * i)) else 0
/-- Byte i of what a key makes of numbers. -/
def ksb (n : Nat) (key : List UInt8) (i : Nat) : UInt8 := enc (keyZ n fun j => key[j]?.getD 0) (ctr (i / 16 + 1)) (n + 6) (i % 16)
def strm (n : Nat) (key data : List UInt8) (i : Nat) : UInt8 := xr (byteAt data i) (ksb n key i)

theorem made_bytes (n : Nat) : madeCells #[Value.int .u8 0] n = bytesV (zeros n) := by
  apply Array.ext'
  rw [toList_madeCells_one]
  simp [bytesV, zeros]
theorem ctr_byte (q i : Nat) (h : i < 8) : ((q : Int) + 1) / 2 ^ (8 * i) % 256 = ((ctr (q + 1) i).toNat : Int) := by
  unfold ctr
  rw [if_pos h, UInt8.toNat_ofNat', Int.natCast_emod, Int.natCast_ediv, Int.natCast_pow]; rfl
set_option maxHeartbeats 1000000 in
set_option maxRecDepth 100000 in
theorem stream_bad (w : World) (vk vd : Value) (l : List UInt8) (B : Nat) (hB : B ≤ w.heap.size) (hv : RdB w B vk l) (h16 : l.length ≠ 16) (h24 : l.length ≠ 24) (h32 : l.length ≠ 32) :
    Calls Try.prog 12 #[vk, vd] w fun e w' => e = .returned (.tuple #[.slice none 0 0, .int .i64 120]) ∧ w = w' := by
  have HV := Lib.hid (hv.mono hB); clear hv
  have HN := Lib.hid (And.intro h16 (And.intro h24 h32))
  clear h16 h24 h32
  go_enter Try.func12, Try.ntmps12
  go_wp2
  go_step3
  go_wp2_with fail
  refine (new_bad _ _ l HV.out HN.out.1 HN.out.2.1 HN.out.2.2).mono ?_
  rintro e w1 ⟨rfl, rfl⟩
  go_wp2
  rw [Exit.noGoto_ret]
  go_ret2
  exact ⟨rfl, rfl⟩
set_option maxHeartbeats 1000000 in
set_option maxRecDepth 100000 in
theorem stream_ok (w : World) (vk vd : Value) (key data : List UInt8) (n : Nat) (B : Nat) (hB : B ≤ w.heap.size) (hk : RdB w B vk key) (hd : RdB w B vd data) (hl : key.length = 4 * n) (hn : n = 4 ∨ n = 6 ∨ n = 8) (hdl : data.length ≤ 140737488355328) :
    Calls Try.prog 12 #[vk, vd] w fun e w' => ∃ ob, w.heap.size ≤ ob ∧ e = .returned (.tuple #[.slice (some ⟨ob, 0, none⟩) data.length data.length, .int .i64 0]) ∧ Blk w' ob (bytesV (mk data.length (strm n key data))) 5 ∧ Below w.heap.size w w' := by
  have HK := Lib.hid (hk.mono hB); clear hk
  have HD := Lib.hid hd; clear hd
  obtain ⟨base, cap, hve, hc1, hc2, hnn, h3⟩ := HD.out
  subst hve
  have H3 := Lib.hid h3; clear h3
  have HL := Lib.hid hl; clear hl
  have HN := Lib.hid hn; clear hn
  have hz : ∀ w : World, (zeroValue 40).run Try.prog w = .ok (.agg (bytesV (zeros 16))) w := fun w => by kernel_rfl
  have hmk := fun w => run_make_row' (P := Try.prog) 22 5 (.int .u8 0) 1 Try.underlying22 (by kernel_rfl) rfl .i64 .i64 data.length (by omega) (by omega) w
  go_enter Try.func12, Try.ntmps12
  go_wp2
  go_step3
  go_wp2_with fail
  refine (new_ok _ _ key n HK.out HL.out HN.out).mono ?_
  rintro e w1 ⟨kb, hkb, rfl, hkey, hb1⟩
  have HB1 := Lib.hid hb1; clear hb1
  have HKEY := Lib.hid hkey; clear hkey
  go_wp2
  go_step3
  go_wp2
  have hl1 := HKEY.out.lt
  have hs1 := HB1.out.size
  have hmb : Blk (w1.alloc (.cells (madeCells #[Value.int .u8 0] data.length) 5)) w1.heap.size (bytesV (zeros data.length)) 5 := by rw [made_bytes]; exact Blk.new _ _ _
  have HMB := Lib.hid hmb; clear hmb
  have HBA := Lib.hid (HB1.out.alloc HB1.out.size (.cells (madeCells #[Value.int .u8 0] data.length) 5))
  have HKA := Lib.hid (HKEY.out.alloc (.cells (madeCells #[Value.int .u8 0] data.length) 5))
  obtain ⟨L, hLL⟩ : ∃ L, L = data.length := ⟨_, rfl⟩
  rw [← hLL] at hdl hc1 H3 ⊢
  rw [← hLL] at HMB HBA HKA
  have HLL := Lib.hid hLL
  clear hmk hLL
  go_loopw [9, 10] (fun vn va wr => ∃ q : Nat, vn = .int .u64 (q : Int) ∧ va = .int .i64 (16 * (q : Int)) ∧ 16 * q ≤ L ∧ Below w.heap.size w wr ∧ Blk wr kb (keyV (keyZ n fun i => key[i]?.getD 0) (n + 6)) 59 ∧ Blk wr w1.heap.size (bytesV (mk L fun i => if i < 16 * q then strm n key data i else 0)) 5) (fun _ va _ => L + 1 - (intOf va).toNat)
  case atStart => exact ⟨0, rfl, rfl, by omega, HBA.out, HKA.out, by rw [mk_congr (g := fun _ => 0) fun i _ => if_neg (by omega), show mk L (fun _ => 0) = zeros L by unfold mk zeros; rw [List.map_const', List.length_range]]; exact HMB.out⟩
  case round =>
    obtain ⟨q, rfl, rfl, hq, hb, hk, ho⟩ := hrel
    have HB := Lib.hid hb; clear hb
    have HKR := Lib.hid hk; clear hk
    have HO := Lib.hid ho; clear ho
    have hob := HO.out.lt
    obtain ⟨wq, rfl⟩ : ∃ wq : World, wq = wr := ⟨_, rfl⟩
    go_wp2
    go_loopw [30] (fun vi wr => ∃ i : Nat, i ≤ 8 ∧ vi = .int .i64 i ∧ Below wq.heap.size wq wr ∧ Blk wr wq.heap.size (bytesV (mk 16 fun j => if j < i then ctr (q + 1) j else 0)) 40) (fun i _ => 8 - (intOf i).toNat)
    case atStart => exact ⟨0, by omega, rfl, (Below.refl _ _).alloc (Nat.le_refl _) _, Blk.new _ _ _⟩
    case round =>
      obtain ⟨i, hi, rfl, hbi, hx⟩ := hrel
      have HBI := Lib.hid hbi; clear hbi
      by_cases hi8 : i < 8
      · have c1 := hx.byte i (by rw [mk_length]; omega)
        have f1 := hx.free i
        have HX := Lib.hid hx; clear hx
        have hcb := Lib.hid (ctr_byte q i hi8)
        go_wp2
        go_roundw
        case rel =>
          rw [hcb.out]
          refine ⟨i + 1, by omega, by go_num, HBI.out.setCell (Nat.le_refl _) _, ?_⟩
          have h := HX.out.setByte i (ctr (q + 1) i)
          rw [mk_step] at h
          exact h
        case measure => simp [intOf]; omega
      · have hx' : Blk wr wq.heap.size (bytesV (mk 16 (ctr (q + 1)))) 40 := by
          rw [mk_congr (g := ctr (q + 1)) fun j hj => by
            by_cases h : j < i
            · rw [if_pos h]
            · rw [if_neg h]; unfold ctr; rw [if_neg (by omega)]] at hx
          exact hx
        have HX := Lib.hid hx'; clear hx hx'
        have hlr := HX.out.lt
        have HKB := Lib.hid (HKR.out.below HBI.out HKR.out.lt)
        have HOB := Lib.hid (HO.out.below HBI.out hob)
        go_wp2_with (refine wpList_loadR rfl _ _ rfl wq.heap.size _ rfl _ HX.out (by kernel_rfl) 16 (by kernel_rfl) (by rw [bytesV_size, mk_length]) ?_)
        refine (block_any _ kb (keyZ n fun i => key[i]?.getD 0) (ctr (q + 1)) (n + 6) (by have := HKB.out.lt; omega) (by have := HN.out; omega) HKB.out).mono ?_
        rintro e w3 ⟨rfl, hb3⟩
        have HB3 := Lib.hid ((HB.out.trans (HBI.out.mono (by have := HB.out.size; omega))).trans (hb3.mono (by have := HB.out.size; omega)))
        have HK3 := Lib.hid (HKB.out.below hb3 HKB.out.lt)
        have HO3 := Lib.hid (HOB.out.below hb3 (by omega))
        clear hb3
        have hE : ∀ i, i < 16 → xr (byteAt data (16 * q + i)) (enc (keyZ n fun i => key[i]?.getD 0) (ctr (q + 1)) (n + 6) i) = strm n key data (16 * q + i) := fun i hi => by
          unfold strm ksb
          rw [show (16 * q + i) / 16 = q by omega, show (16 * q + i) % 16 = i by omega]
        generalize enc (keyZ n fun i => key[i]?.getD 0) (ctr (q + 1)) (n + 6) = E at *
        have HE := Lib.hid hE; clear hE HX HKB HOB HKR HO HBI
        go_wp2
        obtain ⟨wz, rfl⟩ : ∃ wz : World, wz = wr := ⟨_, rfl⟩
        go_loopw [44] (fun vi wr => ∃ i : Nat, i ≤ 16 ∧ vi = .int .i64 i ∧ 16 * q + i ≤ L ∧ Below w.heap.size w wr ∧ Blk wr kb (keyV (keyZ n fun i => key[i]?.getD 0) (n + 6)) 59 ∧ Blk wr w1.heap.size (bytesV (mk L fun p => if p < 16 * q + i then strm n key data p else 0)) 5) (fun i _ => 16 - (intOf i).toNat)
        case atStart => exact ⟨0, by omega, rfl, by omega, HB3.out, HK3.out, HO3.out⟩
        case round =>
          clear HB3 HK3 HO3
          obtain ⟨i, hi, rfl, hle, hb, hk, ho⟩ := hrel
          have HB3 := Lib.hid hb; clear hb
          have HK3 := Lib.hid hk; clear hk
          by_cases hi16 : i < 16
          · have hdi : decide ((i : Int) < 16) = true := decide_eq_true (by omega)
            have hv : (bytesV (mk 16 E))[((i : Int)).toNat]? = some (.int .u8 ((E i).toNat : Int)) := by
              rw [Int.toNat_natCast, bytesV_get _ _ (by rw [mk_length]; exact hi16), mk_get hi16]
            have HV := Lib.hid hv; clear hv
            by_cases hge : L ≤ 16 * q + i
            · have heq : 16 * q + i = L := by omega
              rw [heq, mk_congr (g := strm n key data) fun p hp => if_pos hp] at ho
              have HO3 := Lib.hid ho; clear ho heq
              have hdg : decide ((L : Int) ≤ 16 * (q : Int) + (i : Int)) = true := decide_eq_true (by omega)
              go_wp2_with (refine wpList_indexA rfl _ _ _ rfl _ rfl .i64 (i : Int) rfl 16 5 (by kernel_rfl) (by kernel_rfl) (by omega) (by omega) (.int .u8 ((E i).toNat : Int)) HV.out ?_)
              rw [Exit.noGoto_ret]
              go_ret2
              rw [← HLL.out]
              exact ⟨w1.heap.size, hs1, rfl, HO3.out, HB3.out⟩
            · obtain ⟨b, o, rfl, hblt, hcell⟩ := H3.out (by omega)
              have hdg : decide ((L : Int) ≤ 16 * (q : Int) + (i : Int)) = false := decide_eq_false (by omega)
              have c1 : wr.cell? ⟨b, o + (16 * q + i), none⟩ = some (.int .u8 ((byteAt data (16 * q + i)).toNat : Int)) := (HB3.out.cell (p := ⟨b, o + (16 * q + i), none⟩) (by show b < _; omega)).trans (hcell _ (by omega))
              have c2 := ho.byte (16 * q + i) (by rw [mk_length]; omega)
              have f2 := ho.free (16 * q + i)
              have hs2 := HE.out i hi16
              have HS := Lib.hid hs2; clear hs2 hcell
              have HO3 := Lib.hid ho; clear ho
              go_wp2_with (refine wpList_indexA rfl _ _ _ rfl _ rfl .i64 (i : Int) rfl 16 5 (by kernel_rfl) (by kernel_rfl) (by omega) (by omega) (.int .u8 ((E i).toNat : Int)) HV.out ?_)
              go_roundw
              case rel =>
                rw [HS.out]
                refine ⟨i + 1, by omega, by go_num, by omega, HB3.out.setCell hs1 _, HK3.out.set_ne (by omega) _ _ _, ?_⟩
                have h := HO3.out.setByte (16 * q + i) (strm n key data (16 * q + i))
                rw [mk_step] at h
                exact h
              case measure => simp [intOf]; omega
          · have hi16' : i = 16 := by omega
            rw [hi16'] at ho
            have HO3 := Lib.hid ho
            have HI := Lib.hid hi16'
            have hdi : decide ((i : Int) < 16) = false := decide_eq_false (by omega)
            clear ho hi16'
            go_wp2
            go_roundw
            case rel => exact ⟨q + 1, by go_num, by go_num, by have := HI.out; omega, HB3.out, HK3.out, HO3.out⟩
            case measure => simp [intOf]; omega
end Go.Proofs.Ytnbjpilanjngmaa.XS
