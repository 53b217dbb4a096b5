/- The walks over the reference of layer 13: opened. -/
import Derived.Test.YtnbjpilanjngmaaRef13B
namespace Go.Proofs.Ytnbjpilanjngmaa.XS
open Go Go.RowKit
set_option maxHeartbeats 4000000 in
set_option maxRecDepth 100000 in
theorem open13_ok (z : Int) (hz : -9223372036854775808 ≤ z ∧ z ≤ 9223372036854775807) (pw sd : List UInt8) (vp vs : Value) (w : World) (hp : RdB w w.heap.size vp pw) (hs : RdB w w.heap.size vs sd) (n : Nat) (hz0 : szN z = n) (hn0 : n ≠ 0) (hL : n / 2 + 12 ≤ sd.length) (hlp : pw.length ≤ 1000000) (hld : sd.length ≤ 800000) :
    Calls Try.prog 17 #[.int .i64 z, vp, vs] w fun e w' => ∃ v, e = .returned (.tuple #[v, .int .i64 (openE n pw sd : Int)]) ∧ RdB w' w'.heap.size v (openD n pw sd) ∧ Below w.heap.size w w' := by
  have hc := szN_cases z
  have hsz := size13_any z hz
  rw [hz0] at hc hsz
  have hn3 : n = 16 ∨ n = 24 ∨ n = 32 := by omega
  obtain ⟨h, hh⟩ : ∃ h, n = 2 * h := ⟨n / 2, by omega⟩
  have hhn : (n : Int) / 2 = (h : Int) := by omega
  have hh8 : 8 ≤ h := by omega
  have hh16 : h ≤ 16 := by omega
  have hhL : h + 12 ≤ sd.length := by omega
  have hnh : n / 2 = h := by omega
  have hn32 : n ≤ 32 := by omega
  have HN3 := Lib.hid hn3; clear hn3 hc hz0 hz
  have HSZ := Lib.hid hsz; clear hsz
  have HP := Lib.hid hp; clear hp
  have HNH := Lib.hid hnh
  obtain ⟨base, cap, rfl, hcs1, hcs2, _, h3⟩ := hs
  obtain ⟨b, o, rfl, hblt, hcell⟩ := h3 (by omega)
  obtain ⟨R, hR⟩ : ∃ R, sd.length = h + R := ⟨sd.length - h, by omega⟩
  have HR := Lib.hid hR
  rw [hR] at hcell hcs1 hhL hld ⊢
  have HC := Lib.hid hcell; clear hcell h3 hnh hL hR
  have hz20 : ∀ w : World, (zeroValue 50).run Try.prog w = .ok (.agg (bytesV (zeros 20))) w := fun w => by kernel_rfl
  have hb0 : ((n : Int) == 0) = false := by rw [beq_eq_false_iff_ne]; omega
  have hR12 : 12 ≤ R := by omega
  have hb1 : decide ((h : Int) + (R : Int) < (h : Int) + 12) = false := decide_eq_false (by omega)
  have HH := Lib.hid hh; clear hh
  have i1 : (h : Int) ≤ (cap : Int) := by omega
  have i2 : (h : Int) ≤ (h : Int) + (R : Int) := by omega
  have i3 : ¬ cap = h := by omega
  go_enter Try.func17, Try.ntmps17
  go_upto_region 4 with (go_at_call 27; refine (HSZ.out _).mono ?_; rintro e w1 ⟨rfl, rfl⟩)
  have hcb : ∀ (w' : World), Below w.heap.size w w' → ∀ i, i < h + R → w'.cell? ⟨b, o + i, none⟩ = some (.int .u8 ((byteAt sd i).toNat : Int)) := fun w' hb i hi => (hb.cell (p := ⟨b, o + i, none⟩) (by show b < _; omega)).trans (HC.out i hi)
  have HCB := Lib.hid hcb; clear hcb
  have HSA := Lib.hid (show RdB w w.heap.size (.slice (some ⟨b, o, none⟩) h cap) (oSalt n sd) by
    have h1 := RdB.ofCells (w := w) (g := b) (o := o) (n := h) (cap := cap) (f := byteAt sd) (by omega) (by omega) (by omega) fun i hi => HCB.out _ (Below.refl _ _) i (by omega)
    unfold oSalt; rw [HNH.out]; exact h1)
  go_wp2_with fail
  refine (key11_any pw (oSalt n sd) vp _ 1000 (2 * n + 2) w HP.out HSA.out hlp (by unfold oSalt; rw [mk_length]; omega) (by omega) (by omega)).mono ?_
  rintro e w1 ⟨v, rfl, ho, hb1'⟩
  have HB1 := Lib.hid hb1'
  have hs1 := hb1'.size
  obtain ⟨g, cp, rfl, hg1, hg2, hc1, hc2⟩ := ho.form (by rw [mk_length]; omega)
  rw [mk_length] at ho hc1 ⊢
  have hcell : ∀ i, i < 2 * n + 2 → w1.cell? ⟨g, i, none⟩ = some (.int .u8 ((pbk pw (oSalt n sd) 1000 i).toNat : Int)) := fun i hi => by
    have h := OwnB.cell (l := mk (2 * n + 2) (pbk pw (oSalt n sd) 1000)) (g := g) (cap := cp) (by rw [mk_length]; exact ho) (j := i) (by rw [mk_length]; exact hi)
    rwa [mk_get hi] at h
  have HR1 := Lib.hid (RdB.ofCells (w := w1) (g := g) (o := 0) (n := n) (cap := cp) hg2 (by omega) (by omega) fun i hi => by rw [Nat.zero_add]; exact hcell i (by omega))
  have HR2 := Lib.hid (RdB.ofCells (w := w1) (g := g) (o := n) (n := n) (cap := cp - n) (f := fun i => pbk pw (oSalt n sd) 1000 (n + i)) hg2 (by omega) (by omega) fun i hi => hcell (n + i) (by omega))
  have HR3 := Lib.hid (RdB.ofCells (w := w1) (g := g) (o := 2 * n) (n := 2) (cap := cp - 2 * n) (f := fun i => pbk pw (oSalt n sd) 1000 (2 * n + i)) hg2 (by omega) (by omega) fun i hi => hcell (2 * n + i) (by omega))
  clear hb1' ho hcell
  have k1 : (n : Int) ≤ (cp : Int) := by omega
  have k2 : 2 * (n : Int) ≤ (cp : Int) := by omega
  have k3 : 2 * (n : Int) ≤ 2 * (n : Int) + 2 := by omega
  have k4 : (n : Int) ≤ 2 * (n : Int) := by omega
  have k5 : ¬ cp = n := by omega
  have k6 : ¬ cp = 2 * n := by omega
  have j1 : (h : Int) + 2 ≤ (cap : Int) := by omega
  have j2 : ¬ cap = h + 2 := by omega
  go_upto_region 7 with fail
  have hsaw : RdB w1 w1.heap.size (.slice (some ⟨b, o + h, none⟩) 2 (cap - h)) (oSaw n sd) := by
    have h1 := RdB.ofCells (w := w1) (g := b) (o := o + h) (n := 2) (cap := cap - h) (f := fun i => byteAt sd (h + i)) (by omega) (by omega) (by omega) fun i hi => by
      rw [show o + h + i = o + (h + i) by omega]; exact HCB.out _ HB1.out _ (by omega)
    unfold oSaw; rw [HNH.out]; exact h1
  have HSAW := Lib.hid hsaw; clear hsaw
  refine wp_region_cls 12 (fun w' => w' = w1.drew) (by kernel_rfl) (by kernel_rfl) (by kernel_rfl) (by rfl) rfl ?_
  simp only [List.take_succ_cons, List.take_zero]
  refine quiet_segN 4 (by kernel_rfl) (by kernel_rfl) (by rfl) ⟨_, rfl⟩ ?_
  apply Exists.intro
  refine ⟨fun w' hC K hK => ?seg, ?next⟩
  case seg =>
    subst hC
    simp only [List.take_succ_cons, List.take_zero]
    go_wp2
    exact hK _ _ ⟨by rfl, rfl⟩
  case next =>
    simp only [List.drop_succ_cons, List.drop_zero]
    have hr35 : RdB w1.drew w1.heap.size (.slice (some ⟨g, 2 * n, none⟩) (2 * n + 2 - 2 * n) (cp - 2 * n)) (kSaw n pw (oSalt n sd)) := by rw [show 2 * n + 2 - 2 * n = 2 by omega]; exact HR3.out.below (Below.refl w1.heap.size w1).drew (Nat.le_refl _)
    have hsw5 : RdB w1.drew w1.heap.size (.slice (some ⟨b, o + h, none⟩) (h + 2 - h) (cap - h)) (oSaw n sd) := by rw [show h + 2 - h = 2 by omega]; exact HSAW.out.below (Below.refl w1.heap.size w1).drew (Nat.le_refl _)
    refine quiet_op (by kernel_rfl) (.string ⟨(kSaw n pw (oSalt n sd)).toArray⟩) (fun w' hC => by subst hC; exact exec_str rfl rfl hr35) ?_
    refine quiet_segN 5 (by kernel_rfl) (by kernel_rfl) (by rfl) ⟨_, rfl⟩ ?_
    apply Exists.intro
    refine ⟨fun w' hC K hK => ?seg2, ?next2⟩
    case seg2 =>
      subst hC
      simp only [List.take_succ_cons, List.take_zero]
      go_wp2
      exact hK _ _ ⟨by rfl, rfl⟩
    case next2 =>
      simp only [List.drop_succ_cons, List.drop_zero]
      refine quiet_op (by kernel_rfl) (.string ⟨(oSaw n sd).toArray⟩) (fun w' hC => by subst hC; exact exec_str rfl rfl hsw5) ?_
      refine quiet_op (by kernel_rfl) (.bool (!(decide (kSaw n pw (oSalt n sd) = oSaw n sd)))) (fun w' hC => exec_strneq rfl _ _ rfl rfl w') ?_
      refine wpQuiet_nil ?_
      rintro w' rfl
      have HB1D := Lib.hid HB1.out.drew
      have HR1D := Lib.hid (HR1.out.below (Below.refl w1.heap.size w1).drew (Nat.le_refl _))
      have HR2D := Lib.hid (HR2.out.below (Below.refl w1.heap.size w1).drew (Nat.le_refl _))
      have hgd : g < w1.drew.heap.size := hg2
      have hs1d : w.heap.size ≤ w1.drew.heap.size := hs1
      have hws : w1.heap.size = w1.drew.heap.size := rfl
      rw [hws] at HR1D HR2D
      clear hr35 hsw5 HR1 HR2 HR3 HSAW HB1 hs1 hg2 hws
      generalize w1.drew = W at *
      have hok : ¬ (n = 0 ∨ sd.length < n / 2 + 12) := by rw [HR.out, HNH.out]; omega
      have HOK := Lib.hid hok; clear hok
      by_cases hq1 : kSaw n pw (oSalt n sd) = oSaw n sd
      · have hd1 : decide (kSaw n pw (oSalt n sd) = oSaw n sd) = true := decide_eq_true hq1
        rw [hd1]
        have HQ1 := Lib.hid hq1; clear hq1 hd1
        have j3 : (h : Int) + 2 ≤ (h : Int) + (R : Int) - 10 := by omega
        have j4 : (h : Int) + (R : Int) - 10 ≤ (cap : Int) := by omega
        have j5 : (0 : Int) ≤ (h : Int) + (R : Int) - 10 := by omega
        have j6 : ((h : Int) + (R : Int) - 10).toNat = h + R - 10 := by omega
        have j7 : ¬ cap = h + R - 10 := by omega
        go_wp2_with fail
        have hin : RdB W W.heap.size (.slice (some ⟨b, o + (h + 2), none⟩) (h + R - 10 - (h + 2)) (cap - (h + 2))) (oIns n sd) := by
          have h1 := RdB.ofCells (w := W) (g := b) (o := o + (h + 2)) (n := h + R - 10 - (h + 2)) (cap := cap - (h + 2)) (f := fun i => byteAt sd (h + 2 + i)) (by omega) (by omega) (by omega) fun i hi => by
            rw [show o + (h + 2) + i = o + (h + 2 + i) by omega]; exact HCB.out _ HB1D.out _ (by omega)
          unfold oIns; rw [HNH.out, HR.out, show h + R - h - 12 = h + R - 10 - (h + 2) by omega]; exact h1
        have HIN := Lib.hid hin; clear hin
        have hlin : (oIns n sd).length ≤ 800000 := by unfold oIns; rw [mk_length, HR.out]; omega
        have HLIN := Lib.hid hlin; clear hlin
        rw [show 2 * n - n = n by omega]
        refine (sum11_any W _ _ (kSeal n pw (oSalt n sd)) (oIns n sd) HR2D.out HIN.out (by unfold kSeal; rw [mk_length]; omega) (by have := HLIN.out; omega)).mono ?_
        rintro e w3 ⟨rfl, hb3⟩
        have hs3 := hb3.size
        have HB3 := Lib.hid (HB1D.out.trans (hb3.mono hs1d))
        have HR13 := Lib.hid ((HR1D.out.below hb3 (Nat.le_refl _)).mono hs3)
        have HIN3 := Lib.hid ((HIN.out.below hb3 (Nat.le_refl _)).mono hs3)
        clear hb3
        go_upto_region 11 with (refine wpList_storeO rfl _ _ _ rfl w3.heap.size _ _ rfl rfl _ (Blk.new _ _ _) 20 (by kernel_rfl) (by rw [bytesV_size, mk_length]) (by rw [bytesV_size, zeros_length]) (bytesV_one _) ?_; intro w4 ho4 hb4)
        have hb34 := ho4.below ((Below.refl w3.heap.size w3).alloc (Nat.le_refl _) (Obj.cells (bytesV (zeros 20)) 50)) (Nat.le_refl _)
        have hs34 := hb34.size
        have HB4 := Lib.hid (HB3.out.trans (hb34.mono (by omega)))
        have HR14 := Lib.hid ((HR13.out.below hb34 (Nat.le_refl _)).mono hs34)
        have HIN4 := Lib.hid ((HIN3.out.below hb34 (Nat.le_refl _)).mono hs34)
        have hrt : RdB w4.drew w4.heap.size (.slice (some ⟨w3.heap.size, 0, none⟩) 10 20) (tagB n pw (oSalt n sd) (oIns n sd)) := RdB.ofCells hb4.lt (by omega) (by omega) fun i hi => by
          rw [Nat.zero_add]
          have h := hb4.byte i (by rw [mk_length]; omega)
          rwa [mk_get (by omega)] at h
        have hend : RdB w4.drew w4.heap.size (.slice (some ⟨b, o + (h + R - 10), none⟩) (h + R - (h + R - 10)) (cap - (h + R - 10))) (oEnd sd) := by
          have h1 := RdB.ofCells (w := w4.drew) (g := b) (o := o + (h + R - 10)) (n := 10) (cap := cap - (h + R - 10)) (f := fun i => byteAt sd (h + R - 10 + i)) (by show b < w4.heap.size; have := HB4.out.size; omega) (by omega) (by omega) fun i hi => by
            rw [show o + (h + R - 10) + i = o + (h + R - 10 + i) by omega]; exact HCB.out _ HB4.out.drew _ (by omega)
          unfold oEnd; rw [HR.out, show h + R - (h + R - 10) = 10 by omega]; exact h1
        have HRT := Lib.hid hrt
        have HEND := Lib.hid hend
        clear ho4 hb4 hb34 hrt hend
        simp only [Act.put]
        refine wp_region_cls 7 (fun w' => w' = w4.drew) (by kernel_rfl) (by kernel_rfl) (by kernel_rfl) (by rfl) rfl ?_
        simp only [List.take_succ_cons, List.take_zero]
        refine quiet_segN 1 (by kernel_rfl) (by kernel_rfl) (by rfl) ⟨_, rfl⟩ ?_
        apply Exists.intro
        refine ⟨fun w' hC K hK => ?seg3, ?next3⟩
        case seg3 =>
          subst hC
          simp only [List.take_succ_cons, List.take_zero]
          go_wp2
          exact hK _ _ ⟨by rfl, rfl⟩
        case next3 =>
          simp only [List.drop_succ_cons, List.drop_zero]
          refine quiet_op (by kernel_rfl) (.string ⟨(tagB n pw (oSalt n sd) (oIns n sd)).toArray⟩) (fun w' hC => by subst hC; exact exec_str rfl rfl HRT.out) ?_
          refine quiet_segN 3 (by kernel_rfl) (by kernel_rfl) (by rfl) ⟨_, rfl⟩ ?_
          apply Exists.intro
          refine ⟨fun w' hC K hK => ?seg4, ?next4⟩
          case seg4 =>
            subst hC
            simp only [List.take_succ_cons, List.take_zero]
            go_wp2
            exact hK _ _ ⟨by rfl, rfl⟩
          case next4 =>
            simp only [List.drop_succ_cons, List.drop_zero]
            refine quiet_op (by kernel_rfl) (.string ⟨(oEnd sd).toArray⟩) (fun w' hC => by subst hC; exact exec_str rfl rfl HEND.out) ?_
            refine quiet_op (by kernel_rfl) (.bool (!(decide (tagB n pw (oSalt n sd) (oIns n sd) = oEnd sd)))) (fun w' hC => exec_strneq rfl _ _ rfl rfl w') ?_
            refine wpQuiet_nil ?_
            rintro w' rfl
            have HB4D := Lib.hid HB4.out.drew
            have hR1 := HR14.out.below (Below.refl w4.heap.size w4).drew (Nat.le_refl _)
            have hI1 := HIN4.out.below (Below.refl w4.heap.size w4).drew (Nat.le_refl _)
            have hws : w4.heap.size = w4.drew.heap.size := rfl
            rw [hws] at hR1 hI1
            have HR1 := Lib.hid hR1
            have HI1 := Lib.hid hI1
            have hsw : w.heap.size ≤ w4.drew.heap.size := HB4.out.size
            clear hws hR1 hI1 HR14 HIN4 HRT HEND HB4 hs34
            generalize w4.drew = Z at *
            by_cases hq2 : tagB n pw (oSalt n sd) (oIns n sd) = oEnd sd
            · have hd2 : decide (tagB n pw (oSalt n sd) (oIns n sd) = oEnd sd) = true := decide_eq_true hq2
              rw [hd2]
              have hE : openE n pw sd = 0 := by unfold openE; rw [if_neg HOK.out, if_neg (fun h => h HQ1.out), if_neg (fun h => h hq2)]
              have HE := Lib.hid hE; clear hq2 hd2 hE
              go_wp2_with fail
              refine (stream13_ok Z _ _ (kKey n pw (oSalt n sd)) (oIns n sd) (n / 4) HR1.out HI1.out (by unfold kKey; rw [mk_length]; have := HN3.out; omega) (by have := HN3.out; omega) (by have := HLIN.out; omega)).mono ?_
              rintro e w9 ⟨v9, rfl, ho9, hb9⟩
              have HO9 := Lib.hid ho9
              have HB9 := Lib.hid hb9
              clear ho9 hb9
              go_wp2
              go_ret2
              refine ⟨_, by rw [HE.out]; rfl, ?_, HB4D.out.trans (HB9.out.mono hsw)⟩
              have hd0 : openD n pw sd = mk (oIns n sd).length (strm (n / 4) (kKey n pw (oSalt n sd)) (oIns n sd)) := by unfold openD oOut; rw [HE.out]; rfl
              rw [hd0]
              exact HO9.out.rd
            · have hd2 : decide (tagB n pw (oSalt n sd) (oIns n sd) = oEnd sd) = false := decide_eq_false hq2
              rw [hd2]
              have hE : openE n pw sd = 132 := by unfold openE; rw [if_neg HOK.out, if_neg (fun h => h HQ1.out), if_pos hq2]
              have HE := Lib.hid hE; clear hq2 hd2 hE
              go_wp2
              go_ret2
              refine ⟨_, by rw [HE.out]; rfl, ?_, HB4D.out⟩
              have hd0 : openD n pw sd = [] := by unfold openD; rw [HE.out]; rfl
              rw [hd0]
              exact ⟨none, 0, rfl, by simp, by omega, fun _ => rfl, fun h => by simp at h⟩
      · have hd1 : decide (kSaw n pw (oSalt n sd) = oSaw n sd) = false := decide_eq_false hq1
        rw [hd1]
        have hE : openE n pw sd = 131 := by unfold openE; rw [if_neg HOK.out, if_pos hq1]
        have HE := Lib.hid hE; clear hq1 hd1 hE
        go_wp2
        go_ret2
        refine ⟨_, by rw [HE.out]; rfl, ?_, HB1D.out⟩
        have hd0 : openD n pw sd = [] := by unfold openD; rw [HE.out]; rfl
        rw [hd0]
        exact ⟨none, 0, rfl, by simp, by omega, fun _ => rfl, fun h => by simp at h⟩
end Go.Proofs.Ytnbjpilanjngmaa.XS
