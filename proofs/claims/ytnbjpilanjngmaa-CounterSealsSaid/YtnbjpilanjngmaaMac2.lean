/- The walks over package mac, second part: sums with a key. -/
import Derived.Test.YtnbjpilanjngmaaMac1
namespace Go.Proofs.Ytnbjpilanjngmaa.XS
open Go Go.RowKit
attribute [local go_sem] bits_xr

set_option maxHeartbeats 1000000 in
set_option maxRecDepth 100000 in
theorem msum_any (m1 m2 l : List UInt8) (c1 c2 : Array Value) (v : Value) (B : Nat) (w : World) (hB : B ≤ w.heap.size) (h1 : RepH m1 c1) (h2 : RepH m2 c2) (hv : RdB w B v l) (hl1 : m1.length + l.length ≤ 140737488360000) (hl2 : m2.length ≤ 1000) :
    Calls Try.prog 41 #[.agg c1, .agg c2, v] w fun e w' => e = .returned (.agg (bytesV (mk 20 (sha (m2 ++ mk 20 (sha (m1 ++ l))))))) ∧ Below w.heap.size w w' := by
  have HV := Lib.hid hv; clear hv
  have hz20 : ∀ w : World, (zeroValue 50).run Try.prog w = .ok (.agg (bytesV (zeros 20))) w := fun w => by kernel_rfl
  have hzh : ∀ w : World, (zeroValue 68).run Try.prog w = .ok (.agg (hV ⟨0, 0, 0, 0, 0⟩ (fun _ => 0) 0 0)) w := fun w => by kernel_rfl
  have HB0 := Lib.hid ((((Below.refl w.heap.size w).alloc (Nat.le_refl _) (Obj.cells c1 68)).alloc (by simp) (Obj.cells c2 68)).alloc (by simp; omega) (Obj.cells (bytesV (zeros 20)) 50))
  have HI := Lib.hid (((Blk.new w c1 68).alloc (Obj.cells c2 68)).alloc (Obj.cells (bytesV (zeros 20)) 50))
  have HO := Lib.hid ((Blk.new' (w := w.alloc (Obj.cells c1 68)) (b := w.heap.size + 1) (by simp) c2 68).alloc (Obj.cells (bytesV (zeros 20)) 50))
  have HR := Lib.hid (Blk.new' (w := (w.alloc (Obj.cells c1 68)).alloc (Obj.cells c2 68)) (b := w.heap.size + 2) (by simp) (bytesV (zeros 20)) 50)
  have hs0 : (((w.alloc (Obj.cells c1 68)).alloc (Obj.cells c2 68)).alloc (Obj.cells (bytesV (zeros 20)) 50)).heap.size = w.heap.size + 3 := by simp
  have HX := Lib.hid ((HV.out.below HB0.out hB).toX (g := w.heap.size) hB (by omega))
  have H1 := Lib.hid h1; clear h1
  have H2 := Lib.hid h2; clear h2
  go_enter Try.func41, Try.ntmps41
  go_wp2_with fail
  refine (dwrite_any w.heap.size m1 l v c1 _ HI.out H1.out HX.out (by omega)).mono ?_
  rintro e w1 ⟨rfl, ⟨cs, hc, hrep⟩, hg⟩
  have HB1 := Lib.hid (G.toBelow hg HB0.out HB0.out.size (Nat.le_refl _))
  have HO1 := Lib.hid (grown_blk hg HO.out (fun e => by have := Option.some.inj e; omega))
  have HR1 := Lib.hid (grown_blk hg HR.out (fun e => by have := Option.some.inj e; omega))
  have hs1 := hg.size
  rw [hs0] at hs1
  have HC1 := Lib.hid hc
  have HREP := Lib.hid hrep
  clear hc hrep hg
  go_wp2_with fail
  refine (dsumm_any w.heap.size (m1 ++ l) cs _ HC1.out HREP.out (by rw [List.length_append]; exact hl1)).mono ?_
  rintro e w2 ⟨rfl, hb2⟩
  have HB2 := Lib.hid (HB1.out.trans (hb2.mono HB1.out.size))
  have HO2 := Lib.hid (HO1.out.below hb2 HO1.out.lt)
  have HR2 := Lib.hid (HR1.out.below hb2 HR1.out.lt)
  have hs2 := hb2.size
  clear hb2
  go_upto_region 3 with (refine wpList_storeO rfl _ _ _ rfl w2.heap.size _ _ rfl rfl _ (Blk.new _ _ _) 20 (by kernel_rfl) (by rw [bytesV_size, mk_length]) (by rw [bytesV_size, zeros_length]) (bytesV_one _) ?_; intro w3 ho3 hb3)
  have HB3 := Lib.hid (ho3.below (HB2.out.alloc HB2.out.size (Obj.cells (bytesV (zeros 20)) 50)) HB2.out.size)
  have HO3 := Lib.hid (ho3.blk (HO2.out.alloc _) (by omega))
  have HR3 := Lib.hid (ho3.blk (HR2.out.alloc _) (by omega))
  have hrx := RdX.ofBlk hb3 (g := w.heap.size + 1) (by omega) (by rw [mk_length]; omega)
  rw [mk_length] at hrx
  have HX3 := Lib.hid hrx
  clear ho3 hb3 hrx
  try simp only [Act.put]
  go_wp2_with fail
  refine (dwrite_any (w.heap.size + 1) m2 (mk 20 (sha (m1 ++ l))) _ c2 _ HO3.out H2.out HX3.out (by rw [mk_length]; omega)).mono ?_
  rintro e w4 ⟨rfl, ⟨cs4, hc4, hrep4⟩, hg4⟩
  have HB4 := Lib.hid (G.toBelow hg4 HB3.out HB3.out.size (by omega))
  have HR4 := Lib.hid (grown_blk hg4 HR3.out (fun e => by have := Option.some.inj e; omega))
  have HC4 := Lib.hid hc4
  have HREP4 := Lib.hid hrep4
  clear hc4 hrep4 hg4
  go_wp2_with fail
  refine (dsumm_any (w.heap.size + 1) (m2 ++ mk 20 (sha (m1 ++ l))) cs4 _ HC4.out HREP4.out (by rw [List.length_append, mk_length]; omega)).mono ?_
  rintro e w5 ⟨rfl, hb5⟩
  have HB5 := Lib.hid (HB4.out.trans (hb5.mono HB4.out.size))
  have HR5 := Lib.hid (HR4.out.below hb5 HR4.out.lt)
  clear hb5
  go_wp2_with (refine wpList_storeR rfl _ _ _ rfl (w.heap.size + 2) _ _ rfl rfl _ HR5.out 20 (by kernel_rfl) (by rw [bytesV_size, mk_length]) (by rw [bytesV_size, zeros_length]) (bytesV_one _) ?_)
  exact ret_row rfl (w.heap.size + 2) _ _ rfl (HR5.out.row _) (by kernel_rfl) 20 (by kernel_rfl) (by rw [bytesV_size, mk_length]) rfl ⟨rfl, Below.row HB5.out (by omega) _⟩

/-- Two variables of one struct type, made and stored. -/
theorem locals2 (w : World) (z c1 c2 : Array Value) (E : TypeId) :
    Blk ((w.alloc (.cells z E)).alloc (.cells z E)) w.heap.size z E ∧ Blk (((w.alloc (.cells z E)).alloc (.cells z E)).setRow w.heap.size c1) (w.heap.size + 1) z E ∧
    Blk ((((w.alloc (.cells z E)).alloc (.cells z E)).setRow w.heap.size c1).setRow (w.heap.size + 1) c2) w.heap.size c1 E ∧ Blk ((((w.alloc (.cells z E)).alloc (.cells z E)).setRow w.heap.size c1).setRow (w.heap.size + 1) c2) (w.heap.size + 1) c2 E ∧
    Below w.heap.size w ((((w.alloc (.cells z E)).alloc (.cells z E)).setRow w.heap.size c1).setRow (w.heap.size + 1) c2) ∧ ((((w.alloc (.cells z E)).alloc (.cells z E)).setRow w.heap.size c1).setRow (w.heap.size + 1) c2).heap.size = w.heap.size + 2 := by
  have h1 := (Blk.new w z E).alloc (.cells z E)
  have h2 := Blk.new' (w := w.alloc (.cells z E)) (b := w.heap.size + 1) (by simp) z E
  refine ⟨h1, h2.row_ne (by omega) _, (h1.row c1).row_ne (by omega) _, (h2.row_ne (by omega) c1).row c2, ?_, ?_⟩
  · exact Below.row (Below.row (((Below.refl w.heap.size w).alloc (Nat.le_refl _) _).alloc (by simp) _) (Nat.le_refl _) _) (by omega) _
  · rw [size_setRow, size_setRow]; simp
set_option maxHeartbeats 1000000 in
set_option maxRecDepth 100000 in
theorem mac_any (key l : List UInt8) (vk v : Value) (B : Nat) (w : World) (hB : B ≤ w.heap.size) (hk : RdB w B vk key) (hv : RdB w B v l) (hlk : key.length ≤ 140737488360000) (hl : l.length ≤ 140737488355400) :
    Calls Try.prog 25 #[vk, v] w fun e w' => e = .returned (.agg (bytesV (mk 20 (hmac key l)))) ∧ Below w.heap.size w w' := by
  have HV := Lib.hid hv; clear hv
  have HK := Lib.hid hk; clear hk
  have hz20 : ∀ w : World, (zeroValue 50).run Try.prog w = .ok (.agg (bytesV (zeros 20))) w := fun w => by kernel_rfl
  have hzh : ∀ w : World, (zeroValue 68).run Try.prog w = .ok (.agg (hV ⟨0, 0, 0, 0, 0⟩ (fun _ => 0) 0 0)) w := fun w => by kernel_rfl
  go_enter Try.func25, Try.ntmps25
  have HB0 := Lib.hid ((Below.refl w.heap.size w).alloc (Nat.le_refl _) (Obj.cells (bytesV (zeros 20)) 50))
  have HR0 := Lib.hid (Blk.new w (bytesV (zeros 20)) 50)
  have hs0 : (w.alloc (Obj.cells (bytesV (zeros 20)) 50)).heap.size = w.heap.size + 1 := by simp
  go_wp2_with fail
  refine (halves_any key vk B _ (by omega) (HK.out.below HB0.out hB) hlk).mono ?_
  rintro e w1 ⟨c1, c2, rfl, hr1, hr2, hb1⟩
  have HB1 := Lib.hid (HB0.out.trans (hb1.mono HB0.out.size))
  have HR1 := Lib.hid (HR0.out.below hb1 HR0.out.lt)
  have hs1 := hb1.size
  clear hb1
  have l1 : (hkx key 0x36).length = 64 := mk_length _ _
  have l2 : (hkx key 0x5c).length = 64 := mk_length _ _
  have z1 := hr1.size
  have z2 := hr2.size
  have o1 := rep_one hr1
  have o2 := rep_one hr2
  have H1 := Lib.hid hr1
  have H2 := Lib.hid hr2
  clear hr1 hr2
  obtain ⟨q1, q2, q3, q4, q5, q6⟩ := locals2 w1 (hV ⟨0, 0, 0, 0, 0⟩ (fun _ => 0) 0 0) c1 c2 68
  have Q1 := Lib.hid q1
  have Q2 := Lib.hid q2
  have Q3 := Lib.hid q3
  have Q4 := Lib.hid q4
  have Q5 := Lib.hid q5
  clear q1 q2 q3 q4 q5
  go_wp2_with (first
    | (refine wpList_storeR rfl _ _ _ rfl w1.heap.size _ _ rfl rfl _ Q1.out 71 (by kernel_rfl) z1 (by rw [hV_size]) o1 ?_)
    | (refine wpList_storeR rfl _ _ _ rfl (w1.heap.size + 1) _ _ rfl rfl _ Q2.out 71 (by kernel_rfl) z2 (by rw [hV_size]) o2 ?_)
    | (refine wpList_loadR rfl _ _ rfl w1.heap.size _ rfl _ Q3.out (by kernel_rfl) 71 (by kernel_rfl) z1 ?_)
    | (refine wpList_loadR rfl _ _ rfl (w1.heap.size + 1) _ rfl _ Q4.out (by kernel_rfl) 71 (by kernel_rfl) z2 ?_))
  have HBQ := Lib.hid (HB1.out.trans (Q5.out.mono HB1.out.size))
  have HRQ := Lib.hid (HR1.out.below Q5.out HR1.out.lt)
  refine (msum_any (hkx key 0x36) (hkx key 0x5c) l c1 c2 v B _ (by omega) H1.out H2.out (HV.out.below HBQ.out hB) (by omega) (by omega)).mono ?_
  rintro e w2 ⟨rfl, hb2⟩
  have HB2 := Lib.hid (HBQ.out.trans (hb2.mono HBQ.out.size))
  have HR2 := Lib.hid (HRQ.out.below hb2 HRQ.out.lt)
  clear hb2
  go_wp2_with (refine wpList_storeR rfl _ _ _ rfl w.heap.size _ _ rfl rfl _ HR2.out 20 (by kernel_rfl) (by rw [bytesV_size, mk_length]) (by rw [bytesV_size, zeros_length]) (bytesV_one _) ?_)
  exact ret_row rfl w.heap.size _ _ rfl (HR2.out.row _) (by kernel_rfl) 20 (by kernel_rfl) (by rw [bytesV_size, mk_length]) rfl ⟨rfl, Below.row HB2.out (Nat.le_refl _) _⟩

def orr (x y : UInt8) : UInt8 := x ||| y
theorem bits_orr (x y : UInt8) : bits .or .u8 (x.toNat : Int) (y.toNat : Int) = ((orr x y).toNat : Int) := bits_or_u8 x y
/-- Where two rows differ, gathered. -/
def dif (a b : Nat → UInt8) : Nat → UInt8
  | 0 => 0
  | k + 1 => orr (dif a b k) (xr (a k) (b k))
theorem orr_zero {x y : UInt8} : orr x y = 0 ↔ x = 0 ∧ y = 0 := by
  unfold orr
  rw [← UInt8.toNat_inj, ← UInt8.toNat_inj, ← UInt8.toNat_inj, UInt8.toNat_or]
  show x.toNat ||| y.toNat = 0 ↔ x.toNat = 0 ∧ y.toNat = 0
  exact Nat.or_eq_zero_iff
theorem xr_zero {x y : UInt8} : xr x y = 0 ↔ x = y := by
  unfold xr
  constructor
  · intro h
    have := congrArg (fun z => z ^^^ y) h
    simpa [UInt8.xor_assoc] using this
  · rintro rfl; simp
theorem dif_zero {a b : Nat → UInt8} : ∀ k, dif a b k = 0 ↔ ∀ i, i < k → a i = b i
  | 0 => by simp [dif]
  | k + 1 => by
    unfold dif
    rw [orr_zero, xr_zero, dif_zero k]
    constructor
    · rintro ⟨h1, h2⟩ i hi
      rcases Nat.lt_or_ge i k with h | h
      · exact h1 i h
      · rw [show i = k by omega]; exact h2
    · intro h; exact ⟨fun i hi => h i (by omega), h k (by omega)⟩
theorem dif_eq {la lb : List UInt8} (h : la.length = lb.length) : (((dif (byteAt la) (byteAt lb) la.length).toNat : Int) == 0) = decide (la = lb) := by
  rw [Bool.eq_iff_iff, beq_iff_eq, decide_eq_true_iff]
  constructor
  · intro e
    have e0 : dif (byteAt la) (byteAt lb) la.length = 0 := UInt8.toNat_inj.1 (by simpa using e)
    rw [dif_zero] at e0
    apply List.ext_getElem? 
    intro i
    by_cases hi : i < la.length
    · have := e0 i hi
      unfold byteAt at this
      rw [List.getElem?_eq_getElem hi, List.getElem?_eq_getElem (by omega)] at this ⊢
      simpa using this
    · rw [List.getElem?_eq_none (by omega), List.getElem?_eq_none (by omega)]
  · rintro rfl
    have : dif (byteAt la) (byteAt la) la.length = 0 := (dif_zero _).2 fun _ _ => rfl
    rw [this]; rfl
attribute [local go_sem] bits_orr
set_option maxHeartbeats 1000000 in
set_option maxRecDepth 100000 in
theorem same_any (la lb : List UInt8) (va vb : Value) (w : World) (ha : RdB w w.heap.size va la) (hb : RdB w w.heap.size vb lb) (hla : la.length ≤ 1000000) :
    Calls Try.prog 30 #[va, vb] w fun e w' => e = .returned (.bool (decide (la = lb))) ∧ Below w.heap.size w w' := by
  obtain ⟨ba, capa, rfl, hc1, hc2, hn, h3⟩ := ha
  obtain ⟨bb, capb, rfl, hc1', hc2', hn', h3'⟩ := hb
  have H3 := Lib.hid h3; clear h3
  have H3' := Lib.hid h3'; clear h3'
  by_cases hlen : la.length = lb.length
  · have hne : ((la.length : Int) != (lb.length : Int)) = false := by simp; omega
    have HD := Lib.hid (dif_eq hlen)
    have hlb : lb.length ≤ 1000000 := by omega
    have HL := Lib.hid hlen; clear hlen
    go_enter Try.func30, Try.ntmps30
    go_wp2
    go_loopw [5, 14] (fun vx vk wr => ∃ k : Nat, k ≤ la.length ∧ vk = .int .i64 k ∧ vx = .int .u8 ((dif (byteAt la) (byteAt lb) k).toNat : Int) ∧ Below w.heap.size w wr) (fun _ k _ => la.length - (intOf k).toNat)
    case atStart => exact ⟨0, by omega, rfl, rfl, Below.refl _ _⟩
    case round =>
      obtain ⟨k, hk, rfl, rfl, hbel⟩ := hrel
      by_cases hlt : k < la.length
      · obtain ⟨b, o, rfl, hlt1, hcell⟩ := H3.out (by omega)
        obtain ⟨b', o', rfl, hlt2, hcell'⟩ := H3'.out (by rw [← HL.out]; omega)
        have c1 : wr.cell? ⟨b, o + k, none⟩ = some (.int .u8 ((byteAt la k).toNat : Int)) := (hbel.cell (p := ⟨b, o + k, none⟩) hlt1).trans (hcell k hlt)
        have c2 : wr.cell? ⟨b', o' + k, none⟩ = some (.int .u8 ((byteAt lb k).toNat : Int)) := (hbel.cell (p := ⟨b', o' + k, none⟩) hlt2).trans (hcell' k (by rw [← HL.out]; omega))
        have hltb : k < lb.length := by rw [← HL.out]; exact hlt
        have HB := Lib.hid hbel; clear hbel
        clear hcell hcell'
        go_wp2
        refine wp_region_text 11 (by kernel_rfl) (by kernel_rfl) (by kernel_rfl) (by kernel_rfl) fun K hK => ?_
        simp only [List.take_succ_cons, List.take_zero]
        go_wp2
        refine hK _ _ ⟨by rfl, ?_⟩
        clear hK K
        simp only [List.drop_succ_cons, List.drop_zero]
        go_wp2
        go_roundw
        case rel => exact ⟨k + 1, by omega, by go_num, rfl, HB.out.drew⟩
        case measure => simp [intOf]; omega
      · have hke : k = la.length := by omega
        rw [hke]
        have hd := HD.out
        generalize dif (byteAt la) (byteAt lb) la.length = D at *
        have HD := Lib.hid hd
        clear hd hke
        go_wp2
        go_ret
        exact ⟨by rw [← HD.out]; rfl, hbel⟩
  · have hne : ((la.length : Int) != (lb.length : Int)) = true := by simp; omega
    have hd : decide (la = lb) = false := decide_eq_false fun e => hlen (by rw [e])
    clear hlen
    go_enter Try.func30, Try.ntmps30
    go_wp2
    go_ret
    exact ⟨by rw [hd]; rfl, Below.refl _ _⟩
end Go.Proofs.Ytnbjpilanjngmaa.XS
