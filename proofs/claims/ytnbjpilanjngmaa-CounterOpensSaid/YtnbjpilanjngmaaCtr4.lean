/- The walks over package counter, fourth part: opened. -/
import Derived.Test.YtnbjpilanjngmaaCtr3
namespace Go.Proofs.Ytnbjpilanjngmaa.XS
open Go Go.RowKit

def oSalt (n : Nat) (sd : List UInt8) : List UInt8 := mk (n / 2) (byteAt sd)
def oSaw (n : Nat) (sd : List UInt8) : List UInt8 := mk 2 fun i => byteAt sd (n / 2 + i)
def oIns (n : Nat) (sd : List UInt8) : List UInt8 := mk (sd.length - n / 2 - 12) fun i => byteAt sd (n / 2 + 2 + i)
def oEnd (sd : List UInt8) : List UInt8 := mk 10 fun i => byteAt sd (sd.length - 10 + i)
def oOut (n : Nat) (pw sd : List UInt8) : List UInt8 := mk (oIns n sd).length (strm (n / 4) (kKey n pw (oSalt n sd)) (oIns n sd))
/-- What is told of what was sealed. -/
def openE (n : Nat) (pw sd : List UInt8) : Nat :=
  if n = 0 ∨ sd.length < n / 2 + 12 then 130
  else if ¬ kSaw n pw (oSalt n sd) = oSaw n sd then 131
  else if ¬ tagB n pw (oSalt n sd) (oIns n sd) = oEnd sd then 132 else 0
def openD (n : Nat) (pw sd : List UInt8) : List UInt8 := if openE n pw sd = 0 then oOut n pw sd else []

set_option maxHeartbeats 1000000 in
set_option maxRecDepth 100000 in
theorem open_bad (z : Int) (pw sd : List UInt8) (vp vs : Value) (B : Nat) (w : World) (hs : RdB w B vs sd) (n : Nat) (hz0 : szN z = n) (hbad : n = 0 ∨ sd.length < n / 2 + 12) :
    Calls Try.prog 16 #[.int .i64 z, vp, vs] w fun e w' => e = .returned (.tuple #[.slice none 0 0, .int .i64 130]) ∧ w = w' := by
  obtain ⟨base, cap, rfl, hc1, hc2, _, _⟩ := hs
  have hc := szN_cases z
  have hsz := size_any z
  rw [hz0] at hc hsz
  have HSZ := Lib.hid hsz; clear hsz hz0
  by_cases h0 : n = 0
  · subst h0
    go_enter Try.func16, Try.ntmps16
    go_wp2_with (go_at_call 23; refine (HSZ.out _).mono ?_; rintro e w1 ⟨rfl, rfl⟩)
    go_ret2
    exact ⟨rfl, rfl⟩
  · have hn32 : n ≤ 32 := by omega
    have hb0 : ((n : Int) == 0) = false := by rw [beq_eq_false_iff_ne]; omega
    obtain ⟨h, hh, hL⟩ : ∃ h, n = 2 * h ∧ sd.length < h + 12 := by
      rcases hbad with hbad | hbad
      · exact absurd hbad h0
      · exact ⟨n / 2, by omega, hbad⟩
    have hhn : (n : Int) / 2 = (h : Int) := by omega
    have hb1 : decide ((sd.length : Int) < (h : Int) + 12) = true := decide_eq_true (by omega)
    have hb2 : decide ((sd.length : Int) < (h : Int) + 2 + 10) = true := decide_eq_true (by omega)
    have hh16 : h ≤ 16 := by omega
    clear hbad hh
    go_enter Try.func16, Try.ntmps16
    go_wp2_with (go_at_call 23; refine (HSZ.out _).mono ?_; rintro e w1 ⟨rfl, rfl⟩)
    go_ret2
    exact ⟨rfl, rfl⟩
set_option maxHeartbeats 2000000 in
set_option maxRecDepth 100000 in
theorem open_ok (z : Int) (pw sd : List UInt8) (vp vs : Value) (B : Nat) (w : World) (hB : B ≤ w.heap.size) (hp : RdB w B vp pw) (hs : RdB w B vs sd) (n : Nat) (hz0 : szN z = n) (hn0 : n ≠ 0) (hL : n / 2 + 12 ≤ sd.length) (hlp : pw.length ≤ 140737488360000) (hld : sd.length ≤ 140737488355328) :
    Calls Try.prog 16 #[.int .i64 z, vp, vs] w fun e w' => ∃ v, e = .returned (.tuple #[v, .int .i64 (openE n pw sd : Int)]) ∧ RdB w' w'.heap.size v (openD n pw sd) ∧ Below w.heap.size w w' := by
  have hc := szN_cases z
  have hsz := size_any z
  rw [hz0] at hc hsz
  have hn3 : n = 16 ∨ n = 24 ∨ n = 32 := by omega
  obtain ⟨h, hh⟩ : ∃ h, n = 2 * h := ⟨n / 2, by omega⟩
  have hhn : (n : Int) / 2 = (h : Int) := by omega
  have hh8 : 8 ≤ h := by omega
  have hh16 : h ≤ 16 := by omega
  have hhL : h + 12 ≤ sd.length := by omega
  have hnh : n / 2 = h := by omega
  have hn32 : n ≤ 32 := by omega
  have HN3 := Lib.hid hn3; clear hn3 hc hz0
  have HSZ := Lib.hid hsz; clear hsz
  have HP := Lib.hid hp; clear hp
  have HNH := Lib.hid hnh
  obtain ⟨base, cap, rfl, hcs1, hcs2, _, h3⟩ := hs
  obtain ⟨b, o, rfl, hblt, hcell⟩ := h3 (by omega)
  obtain ⟨R, hR⟩ : ∃ R, sd.length = h + R := ⟨sd.length - h, by omega⟩
  have HR := Lib.hid hR
  rw [hR] at hcell hcs1 hhL hld ⊢
  have HC := Lib.hid hcell; clear hcell h3 hnh hL hR
  have hz20 : ∀ w : World, (zeroValue 50).run Try.prog w = .ok (.agg (bytesV (zeros 20))) w := fun w => by kernel_rfl
  have hb0 : ((n : Int) == 0) = false := by rw [beq_eq_false_iff_ne]; omega
  have hR12 : 12 ≤ R := by omega
  have hb1 : decide ((h : Int) + (R : Int) < (h : Int) + 12) = false := decide_eq_false (by omega)
  have hb2 : decide ((h : Int) + (R : Int) < (h : Int) + 2 + 10) = false := decide_eq_false (by omega)
  have HH := Lib.hid hh; clear hh
  have i1 : (h : Int) ≤ (cap : Int) := by omega
  have i2 : (h : Int) ≤ (h : Int) + (R : Int) := by omega
  have i3 : ¬ cap = h := by omega
  have i4 : ¬ cap - h = 2 := by omega
  have i5 : ¬ cap - h = R - 10 := by omega
  have i6 : (R : Int) - 10 ≤ ((cap - h : Nat) : Int) := by omega
  have i7 : (2 : Int) ≤ (R : Int) - 10 := by omega
  have i8 : (R : Int) - 10 ≤ (R : Int) := by omega
  have i9 : (0 : Int) ≤ (R : Int) - 10 := by omega
  have i10 : (2 : Int) ≤ ((cap - h : Nat) : Int) := by omega
  have i11 : ((R : Int) - 10).toNat = R - 10 := by omega
  go_enter Try.func16, Try.ntmps16
  go_upto_region 4 with (go_at_call 23; refine (HSZ.out _).mono ?_; rintro e w1 ⟨rfl, rfl⟩)
  try simp only [Act.put]
  refine wp_region_reads (by kernel_rfl) (by kernel_rfl) (by kernel_rfl) (by kernel_rfl) fun K hK => ?_
  go_wp2
  refine hK _ _ ⟨by rfl, ?_⟩
  clear hK K
  have HB0 := Lib.hid ((Below.refl w.heap.size w).drew)
  have HP0 := Lib.hid (HP.out.below HB0.out hB)
  have hcb : ∀ (w' : World), Below w.heap.size w w' → ∀ i, i < h + R → w'.cell? ⟨b, o + i, none⟩ = some (.int .u8 ((byteAt sd i).toNat : Int)) := fun w' hb i hi => (hb.cell (p := ⟨b, o + i, none⟩) (by show b < _; omega)).trans (HC.out i hi)
  have HCB := Lib.hid hcb; clear hcb
  have HSA := Lib.hid (show RdB w.drew w.heap.size (.slice (some ⟨b, o, none⟩) h cap) (oSalt n sd) by
    have h1 := RdB.ofCells (w := w.drew) (g := b) (o := o) (n := h) (cap := cap) (f := byteAt sd) (by show b < w.heap.size; omega) (by omega) (by omega) fun i hi => HCB.out _ HB0.out i (by omega)
    unfold oSalt; rw [HNH.out]; exact h1)
  go_wp2_with fail
  refine (keys_any n pw (oSalt n sd) vp _ w.heap.size w.drew HN3.out (Nat.le_refl _) (HP0.out.mono hB) HSA.out hlp (by unfold oSalt; rw [mk_length]; omega)).mono ?_
  rintro e w1 ⟨v1, v2, v3, rfl, hr1, hr2, hr3, hb⟩
  have HB1 := Lib.hid (HB0.out.trans hb); clear hb
  have HR1 := Lib.hid hr1
  have HR2 := Lib.hid hr2
  have HR3 := Lib.hid hr3
  clear hr1 hr2 hr3
  go_upto_region 6 with fail
  try simp only [Act.put]
  refine wp_region_reads (by kernel_rfl) (by kernel_rfl) (by kernel_rfl) (by kernel_rfl) fun K hK => ?_
  go_wp2
  refine hK _ _ ⟨by rfl, ?_⟩
  clear hK K
  have HD1 := Lib.hid HB1.out.drew
  have hs1 : w.heap.size ≤ w1.drew.heap.size := HB1.out.size
  have hin : RdB w1.drew w1.drew.heap.size (.slice (some ⟨b, o + h + 2, none⟩) (R - 10 - 2) (cap - h - 2)) (oIns n sd) := by
    have h1 := RdB.ofCells (w := w1.drew) (g := b) (o := o + h + 2) (n := R - 10 - 2) (cap := cap - h - 2) (f := fun i => byteAt sd (h + 2 + i)) (by omega) (by omega) (by omega) fun i hi => by
      rw [show o + h + 2 + i = o + (h + 2 + i) by omega]; exact HCB.out _ HD1.out _ (by omega)
    unfold oIns; rw [HNH.out, HR.out, show h + R - h - 12 = R - 10 - 2 by omega]; exact h1
  have hend : RdB w1.drew w1.drew.heap.size (.slice (some ⟨b, o + h + (R - 10), none⟩) (R - (R - 10)) (cap - h - (R - 10))) (oEnd sd) := by
    have h1 := RdB.ofCells (w := w1.drew) (g := b) (o := o + h + (R - 10)) (n := 10) (cap := cap - h - (R - 10)) (f := fun i => byteAt sd (h + R - 10 + i)) (by omega) (by omega) (by omega) fun i hi => by
      rw [show o + h + (R - 10) + i = o + (h + R - 10 + i) by omega]; exact HCB.out _ HD1.out _ (by omega)
    unfold oEnd; rw [HR.out, show R - (R - 10) = 10 by omega]; exact h1
  have hsaw : RdB w1.drew w1.drew.heap.size (.slice (some ⟨b, o + h, none⟩) 2 (cap - h)) (oSaw n sd) := by
    have h1 := RdB.ofCells (w := w1.drew) (g := b) (o := o + h) (n := 2) (cap := cap - h) (f := fun i => byteAt sd (h + i)) (by omega) (by omega) (by omega) fun i hi => by
      rw [show o + h + i = o + (h + i) by omega]; exact HCB.out _ HD1.out _ (by omega)
    unfold oSaw; rw [HNH.out]; exact h1
  have HIN := Lib.hid hin; clear hin
  have HEND := Lib.hid hend; clear hend
  have HSAW := Lib.hid hsaw; clear hsaw
  have hR1 := HR1.out.below (Below.refl w1.heap.size w1).drew (Nat.le_refl _)
  have hR2 := HR2.out.below (Below.refl w1.heap.size w1).drew (Nat.le_refl _)
  have hR3 := HR3.out.below (Below.refl w1.heap.size w1).drew (Nat.le_refl _)
  clear HR1 HR2 HR3 HB1
  have HR1 : Hid (RdB w1.drew w1.drew.heap.size v1 (kKey n pw (oSalt n sd))) := hR1
  have HR2 : Hid (RdB w1.drew w1.drew.heap.size v2 (kSeal n pw (oSalt n sd))) := hR2
  have HR3 : Hid (RdB w1.drew w1.drew.heap.size v3 (kSaw n pw (oSalt n sd))) := hR3
  clear hR1 hR2 hR3
  generalize w1.drew = W at *
  have hlin : (oIns n sd).length ≤ 140737488355328 := by unfold oIns; rw [mk_length, HR.out]; omega
  go_wp2_with fail
  refine (mac_any (kSeal n pw (oSalt n sd)) (oIns n sd) _ _ W.heap.size _ (Nat.le_refl _) HR2.out HIN.out (by unfold kSeal; rw [mk_length]; omega) (by omega)).mono ?_
  rintro e w3 ⟨rfl, hb3⟩
  have hs3 := hb3.size
  have HB3 := Lib.hid (HD1.out.trans (hb3.mono hs1))
  have HR13 := Lib.hid (HR1.out.below hb3 (Nat.le_refl _))
  have HR33 := Lib.hid (HR3.out.below hb3 (Nat.le_refl _))
  have HIN3 := Lib.hid (HIN.out.below hb3 (Nat.le_refl _))
  have HEND3 := Lib.hid (HEND.out.below hb3 (Nat.le_refl _))
  have HSAW3 := Lib.hid (HSAW.out.below hb3 (Nat.le_refl _))
  clear hb3
  go_upto_region 8 with (refine wpList_storeO rfl _ _ _ rfl w3.heap.size _ _ rfl rfl _ (Blk.new _ _ _) 20 (by kernel_rfl) (by rw [bytesV_size, mk_length]) (by rw [bytesV_size, zeros_length]) (bytesV_one _) ?_; intro w4 ho4 hb4)
  have hb34 := ho4.below ((Below.refl w3.heap.size w3).alloc (Nat.le_refl _) (Obj.cells (bytesV (zeros 20)) 50)) (Nat.le_refl _)
  have hs4 := hb34.size
  have HB4 := Lib.hid (HB3.out.trans (hb34.mono (by omega)))
  have HR14 := Lib.hid ((HR13.out.mono hs3).below hb34 (Nat.le_refl _))
  have HR34 := Lib.hid ((HR33.out.mono hs3).below hb34 (Nat.le_refl _))
  have HIN4 := Lib.hid ((HIN3.out.mono hs3).below hb34 (Nat.le_refl _))
  have HEND4 := Lib.hid ((HEND3.out.mono hs3).below hb34 (Nat.le_refl _))
  have HSAW4 := Lib.hid ((HSAW3.out.mono hs3).below hb34 (Nat.le_refl _))
  have hrt : RdB w4 w4.heap.size (.slice (some ⟨w3.heap.size, 0, none⟩) 10 20) (tagB n pw (oSalt n sd) (oIns n sd)) := RdB.ofCells hb4.lt (by omega) (by omega) fun i hi => by
    rw [Nat.zero_add]
    have h := hb4.byte i (by rw [mk_length]; omega)
    rwa [mk_get (by omega)] at h
  have HRT := Lib.hid hrt
  clear ho4 hb4 hb34 hrt
  try simp only [Act.put]
  go_wp2_with fail
  refine (same_any (kSaw n pw (oSalt n sd)) (oSaw n sd) _ _ _ (HR34.out.mono hs4) (HSAW4.out.mono hs4) (by unfold kSaw; rw [mk_length]; omega)).mono ?_
  rintro e w5 ⟨rfl, hb5⟩
  have hs5 := hb5.size
  have HB5 := Lib.hid (HB4.out.trans (hb5.mono (by omega)))
  have HR15 := Lib.hid ((HR14.out.mono hs4).below hb5 (Nat.le_refl _))
  have HIN5 := Lib.hid ((HIN4.out.mono hs4).below hb5 (Nat.le_refl _))
  have HEND5 := Lib.hid ((HEND4.out.mono hs4).below hb5 (Nat.le_refl _))
  have HRT5 := Lib.hid (HRT.out.below hb5 (Nat.le_refl _))
  clear hb5
  have hok : ¬ (n = 0 ∨ sd.length < n / 2 + 12) := by rw [HR.out, HNH.out]; omega
  have HOK := Lib.hid hok; clear hok
  by_cases hq1 : kSaw n pw (oSalt n sd) = oSaw n sd
  · have hd1 : decide (kSaw n pw (oSalt n sd) = oSaw n sd) = true := decide_eq_true hq1
    rw [hd1]
    have HQ1 := Lib.hid hq1; clear hq1 hd1
    go_wp2_with fail
    refine (same_any (tagB n pw (oSalt n sd) (oIns n sd)) (oEnd sd) _ _ _ (HRT5.out.mono hs5) (HEND5.out.mono hs5) (by unfold tagB; rw [mk_length]; omega)).mono ?_
    rintro e w6 ⟨rfl, hb6⟩
    have hs6 := hb6.size
    have HB6 := Lib.hid (HB5.out.trans (hb6.mono (by omega)))
    have HR16 := Lib.hid ((HR15.out.mono hs5).below hb6 (Nat.le_refl _))
    have HIN6 := Lib.hid ((HIN5.out.mono hs5).below hb6 (Nat.le_refl _))
    clear hb6
    by_cases hq2 : tagB n pw (oSalt n sd) (oIns n sd) = oEnd sd
    · have hd2 : decide (tagB n pw (oSalt n sd) (oIns n sd) = oEnd sd) = true := decide_eq_true hq2
      rw [hd2]
      have hE : openE n pw sd = 0 := by unfold openE; rw [if_neg HOK.out, if_neg (fun h => h HQ1.out), if_neg (fun h => h hq2)]
      have HE := Lib.hid hE; clear hq2 hd2 hE
      go_wp2_with fail
      refine (stream_ok _ _ _ (kKey n pw (oSalt n sd)) (oIns n sd) (n / 4) w6.heap.size (Nat.le_refl _) (HR16.out.mono hs6) (HIN6.out.mono hs6) (by unfold kKey; rw [mk_length]; have := HN3.out; omega) (by have := HN3.out; omega) hlin).mono ?_
      rintro e w7 ⟨ob, hob1, rfl, hob, hb7⟩
      have HB7 := Lib.hid (HB6.out.trans (hb7.mono (by omega)))
      have hri := RdB.ofBlk hob (by rw [mk_length]; omega)
      rw [mk_length] at hri
      have HRI := Lib.hid hri
      clear hri hb7 hob
      go_wp2
      go_ret2
      refine ⟨_, by rw [HE.out]; rfl, ?_, HB7.out⟩
      unfold openD
      rw [if_pos HE.out]
      exact HRI.out
    · have hd2 : decide (tagB n pw (oSalt n sd) (oIns n sd) = oEnd sd) = false := decide_eq_false hq2
      rw [hd2]
      have hE : openE n pw sd = 132 := by unfold openE; rw [if_neg HOK.out, if_neg (fun h => h HQ1.out), if_pos hq2]
      have HE := Lib.hid hE; clear hq2 hd2 hE
      go_wp2
      go_ret2
      refine ⟨_, by rw [HE.out]; rfl, ?_, HB6.out⟩
      unfold openD
      rw [if_neg (by rw [HE.out]; decide)]
      exact (OwnB.nil w6 0 0).rd
  · have hd1 : decide (kSaw n pw (oSalt n sd) = oSaw n sd) = false := decide_eq_false hq1
    rw [hd1]
    have hE : openE n pw sd = 131 := by unfold openE; rw [if_neg HOK.out, if_pos hq1]
    have HE := Lib.hid hE; clear hq1 hd1 hE
    go_wp2
    go_ret2
    refine ⟨_, by rw [HE.out]; rfl, ?_, HB5.out⟩
    unfold openD
    rw [if_neg (by rw [HE.out]; decide)]
    exact (OwnB.nil w5 0 0).rd
end Go.Proofs.Ytnbjpilanjngmaa.XS
