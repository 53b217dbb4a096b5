/- The walks over the reference of layer 13: sealed, opened. -/
import Derived.Test.YtnbjpilanjngmaaRef13
import Derived.Test.YtnbjpilanjngmaaLaw13a
namespace Go.Proofs.Ytnbjpilanjngmaa.XS
open Go Go.RowKit

set_option maxHeartbeats 1000000 in
set_option maxRecDepth 100000 in
theorem seal13_bad (z : Int) (hz : -9223372036854775808 ≤ z ∧ z ≤ 9223372036854775807) (pw salt data : List UInt8) (vp vs vd : Value) (B : Nat) (w : World) (hs : RdB w B vs salt) (hls : salt.length ≤ 140737488355328) (hbad : szN z = 0 ∨ 2 * salt.length ≠ szN z) :
    Calls Try.prog 15 #[.int .i64 z, vp, vs, vd] w fun e w' => e = .returned (.tuple #[.slice none 0 0, .int .i64 130]) ∧ w = w' := by
  obtain ⟨base, cap, rfl, hc1, hc2, _, _⟩ := hs
  have hc := szN_cases z
  obtain ⟨n, hn⟩ : ∃ n, n = szN z := ⟨_, rfl⟩
  have hsz := size13_any z hz
  rw [← hn] at hbad hc hsz
  have HSZ := Lib.hid hsz; clear hsz hn hz
  by_cases h0 : n = 0
  · subst h0
    go_enter Try.func15, Try.ntmps15
    go_wp2_with (go_at_call 27; refine (HSZ.out _).mono ?_; rintro e w1 ⟨rfl, rfl⟩)
    go_ret2
    exact ⟨rfl, rfl⟩
  · have hn32 : n ≤ 32 := by omega
    have hb0 : ((n : Int) == 0) = false := by rw [beq_eq_false_iff_ne]; omega
    have hb1 : (2 * (salt.length : Int) != (n : Int)) = true := by simp; omega
    clear hbad
    go_enter Try.func15, Try.ntmps15
    go_wp2_with (go_at_call 27; refine (HSZ.out _).mono ?_; rintro e w1 ⟨rfl, rfl⟩)
    go_ret2
    exact ⟨rfl, rfl⟩

set_option maxHeartbeats 2000000 in
set_option maxRecDepth 100000 in
theorem seal13_ok (z : Int) (hz : -9223372036854775808 ≤ z ∧ z ≤ 9223372036854775807) (pw salt data : List UInt8) (vp vs vd : Value) (w : World) (hp : RdB w w.heap.size vp pw) (hs : RdB w w.heap.size vs salt) (hd : RdB w w.heap.size vd data) (n : Nat) (hz0 : szN z = n) (hn0 : n ≠ 0) (hsl : 2 * salt.length = n) (hlp : pw.length ≤ 1000000) (hld : data.length ≤ 800000) :
    Calls Try.prog 15 #[.int .i64 z, vp, vs, vd] w fun e w' => ∃ v, e = .returned (.tuple #[v, .int .i64 0]) ∧ OwnB w' w.heap.size 5 v (sealB n pw salt data) ∧ Below w.heap.size w w' := by
  have hc := szN_cases z
  have hsz := size13_any z hz
  rw [hz0] at hc hsz
  have hn3 : n = 16 ∨ n = 24 ∨ n = 32 := by omega
  have hn32 : n ≤ 32 := by omega
  have hn16 : 16 ≤ n := by omega
  have HN3 := Lib.hid hn3; clear hn3 hc hz0 hz
  have HSZ := Lib.hid hsz; clear hsz
  have HP := Lib.hid hp; clear hp
  have HS := Lib.hid hs; clear hs
  have HD := Lib.hid hd; clear hd
  have hz20 : ∀ w : World, (zeroValue 50).run Try.prog w = .ok (.agg (bytesV (zeros 20))) w := fun w => by kernel_rfl
  obtain ⟨bs, cs, rfl, hcs1, hcs2, _, _⟩ := HS.out
  have hb0 : ((n : Int) == 0) = false := by rw [beq_eq_false_iff_ne]; omega
  have hb1 : (2 * (salt.length : Int) != (n : Int)) = false := by simp; omega
  have HSL := Lib.hid hsl; clear hsl
  have hls : salt.length ≤ 16 := by have := HN3.out; have := HSL.out; omega
  go_enter Try.func15, Try.ntmps15
  go_upto_region 4 with (go_at_call 27; refine (HSZ.out _).mono ?_; rintro e w1 ⟨rfl, rfl⟩)
  go_wp2_with fail
  refine (key11_any pw salt vp _ 1000 (2 * n + 2) w HP.out HS.out hlp (by omega) (by omega) (by omega)).mono ?_
  rintro e w1 ⟨v, rfl, ho, hb1⟩
  have HB1 := Lib.hid hb1
  have hs1 := hb1.size
  obtain ⟨g, cap, rfl, hg1, hg2, hc1, hc2⟩ := ho.form (by rw [mk_length]; omega)
  rw [mk_length] at ho hc1 ⊢
  have hcell : ∀ i, i < 2 * n + 2 → w1.cell? ⟨g, i, none⟩ = some (.int .u8 ((pbk pw salt 1000 i).toNat : Int)) := fun i hi => by
    have h := OwnB.cell (l := mk (2 * n + 2) (pbk pw salt 1000)) (g := g) (cap := cap) (by rw [mk_length]; exact ho) (j := i) (by rw [mk_length]; exact hi)
    rwa [mk_get hi] at h
  have HR1 := Lib.hid (RdB.ofCells (w := w1) (g := g) (o := 0) (n := n) (cap := cap) hg2 (by omega) (by omega) fun i hi => by rw [Nat.zero_add]; exact hcell i (by omega))
  have HR2 := Lib.hid (RdB.ofCells (w := w1) (g := g) (o := n) (n := n) (cap := cap - n) (f := fun i => pbk pw salt 1000 (n + i)) hg2 (by omega) (by omega) fun i hi => hcell (n + i) (by omega))
  have HR3 := Lib.hid (RdB.ofCells (w := w1) (g := g) (o := 2 * n) (n := 2) (cap := cap - 2 * n) (f := fun i => pbk pw salt 1000 (2 * n + i)) hg2 (by omega) (by omega) fun i hi => hcell (2 * n + i) (by omega))
  clear hb1 ho hcell
  have k1 : (n : Int) ≤ (cap : Int) := by omega
  have k2 : 2 * (n : Int) ≤ (cap : Int) := by omega
  have k3 : 2 * (n : Int) ≤ 2 * (n : Int) + 2 := by omega
  have k4 : (n : Int) ≤ 2 * (n : Int) := by omega
  have k5 : ¬ cap = n := by omega
  have k6 : ¬ cap = 2 * n := by omega
  go_wp2_with fail
  refine (stream13_ok w1 _ vd (kKey n pw salt) data (n / 4) HR1.out ((HD.out.below HB1.out (Nat.le_refl _)).mono hs1) (by unfold kKey; rw [mk_length]; have := HN3.out; omega) (by have := HN3.out; omega) (by omega)).mono ?_
  rintro e w2 ⟨vi, rfl, hoi, hb2⟩
  have HB2 := Lib.hid (HB1.out.trans (hb2.mono hs1))
  have HR22 := Lib.hid ((HR2.out.below hb2 (Nat.le_refl _)).mono hb2.size)
  have HR32 := Lib.hid ((HR3.out.below hb2 (Nat.le_refl _)).mono hb2.size)
  have HRI := Lib.hid hoi.rd
  have hs2 := HB2.out.size
  have hss2 := hb2.size
  obtain ⟨bi, ci, rfl, hci1, hci2⟩ := hoi.form0
  rw [mk_length] at hci1 HRI ⊢
  clear hb2 hoi
  have hin : mk data.length (strm (n / 4) (kKey n pw salt) data) = insideB n pw salt data := rfl
  rw [hin] at HRI
  have hil : (insideB n pw salt data).length = data.length := mk_length _ _
  have HIL := Lib.hid hil; clear hil hin
  go_wp2_with fail
  rw [show 2 * n - n = n by omega]
  refine (sum11_any w2 _ _ (kSeal n pw salt) (insideB n pw salt data) HR22.out HRI.out (by unfold kSeal; rw [mk_length]; omega) (by rw [HIL.out]; omega)).mono ?_
  rintro e w3 ⟨rfl, hb3⟩
  have HB3 := Lib.hid (HB2.out.trans (hb3.mono (by omega)))
  have HR33 := Lib.hid (HR32.out.below hb3 (Nat.le_refl _))
  have HRI3 := Lib.hid (HRI.out.below hb3 (Nat.le_refl _))
  have hs3 := HB3.out.size
  have hss3 := hb3.size
  clear hb3
  go_upto_region 7 with (refine wpList_storeO rfl _ _ _ rfl w3.heap.size _ _ rfl rfl _ (Blk.new _ _ _) 20 (by kernel_rfl) (by rw [bytesV_size, mk_length]) (by rw [bytesV_size, zeros_length]) (bytesV_one _) ?_; intro w4 ho4 hb4)
  have hb34 := ho4.below ((Below.refl w3.heap.size w3).alloc (Nat.le_refl _) (Obj.cells (bytesV (zeros 20)) 50)) (Nat.le_refl _)
  have HB4 := Lib.hid (HB3.out.trans (hb34.mono hs3))
  have hs4 := HB4.out.size
  have hss4 := hb34.size
  have HS4 := Lib.hid ((HS.out.below HB4.out (Nat.le_refl _)).mono hs4)
  have HR34 := Lib.hid (((HR33.out.mono hss3).below hb34 (Nat.le_refl _)).mono hss4)
  have HRI4 := Lib.hid (((HRI3.out.mono hss3).below hb34 (Nat.le_refl _)).mono hss4)
  have hrt : RdB w4 w4.heap.size (.slice (some ⟨w3.heap.size, 0, none⟩) 10 20) (tagB n pw salt (insideB n pw salt data)) := RdB.ofCells hb4.lt (by omega) (by omega) fun i hi => by
    rw [Nat.zero_add]
    have h := hb4.byte i (by rw [mk_length]; omega)
    rwa [mk_get (by omega)] at h
  have HRT := Lib.hid hrt
  have f1 : ([] : List UInt8).length + salt.length ≤ 140737488355328 := by simp; omega
  have f2 : (([] : List UInt8) ++ salt).length + (kSaw n pw salt).length ≤ 140737488355328 := by simp [kSaw, mk_length]; omega
  have f3 : (([] : List UInt8) ++ salt ++ kSaw n pw salt).length + (insideB n pw salt data).length ≤ 140737488355328 := by simp [kSaw, mk_length, HIL.out]; omega
  have f4 : (([] : List UInt8) ++ salt ++ kSaw n pw salt ++ insideB n pw salt data).length + (tagB n pw salt (insideB n pw salt data)).length ≤ 140737488355328 := by simp [kSaw, tagB, mk_length, HIL.out]; omega
  have hr35 : RdB w4 w4.heap.size (.slice (some ⟨g, 2 * n, none⟩) (2 * n + 2 - 2 * n) (cap - 2 * n)) (kSaw n pw salt) := by rw [show 2 * n + 2 - 2 * n = 2 by omega]; exact HR34.out
  have HR35 := Lib.hid hr35
  clear hrt hb34 ho4 hb4 hr35
  simp only [Act.put]
  go_wp2_with (first
    | (refine wpList_appendR rfl _ _ _ rfl w4.heap.size 5 (by kernel_rfl) (by kernel_rfl) _ [] rfl (OwnB.lit _ _ _ (Nat.le_refl _)) _ w4.heap.size rfl salt (HS4.out.below ((Below.refl _ _).alloc (Nat.le_refl _) _) (Nat.le_refl _)) f1 (by simp) ?_; intro v5 w5 ho5 hg5; have HB5 := Lib.hid (grown_below hg5 ((Below.refl w4.heap.size w4).alloc (Nat.le_refl _) (Obj.cells #[] 5)) (by simp) (fun z hz => by have h : some w4.heap.size = some z := hz; have := Option.some.inj h; omega)); have HO5 := Lib.hid ho5; have hs5 := HB5.out.size; clear ho5 hg5)
    | (refine wpList_appendR rfl _ _ _ rfl w4.heap.size 5 (by kernel_rfl) (by kernel_rfl) _ ([] ++ salt) rfl HO5.out _ w4.heap.size rfl (kSaw n pw salt) (HR35.out.below HB5.out (Nat.le_refl _)) f2 hs5 ?_; intro v6 w6 ho6 hg6; have HB6 := Lib.hid (grown_below hg6 HB5.out hs5 (fun z hz => (HO5.out.block z hz).1)); have HO6 := Lib.hid ho6; have hs6 := HB6.out.size; clear ho6 hg6)
    | (refine wpList_appendR rfl _ _ _ rfl w4.heap.size 5 (by kernel_rfl) (by kernel_rfl) _ ([] ++ salt ++ kSaw n pw salt) rfl HO6.out _ w4.heap.size rfl (insideB n pw salt data) (HRI4.out.below HB6.out (Nat.le_refl _)) f3 hs6 ?_; intro v7 w7 ho7 hg7; have HB7 := Lib.hid (grown_below hg7 HB6.out hs6 (fun z hz => (HO6.out.block z hz).1)); have HO7 := Lib.hid ho7; have hs7 := HB7.out.size; clear ho7 hg7)
    | (refine wpList_appendR rfl _ _ _ rfl w4.heap.size 5 (by kernel_rfl) (by kernel_rfl) _ ([] ++ salt ++ kSaw n pw salt ++ insideB n pw salt data) rfl HO7.out _ w4.heap.size rfl (tagB n pw salt (insideB n pw salt data)) (HRT.out.below HB7.out (Nat.le_refl _)) f4 hs7 ?_; intro v8 w8 ho8 hg8; have HB8 := Lib.hid (grown_below hg8 HB7.out hs7 (fun z hz => (HO7.out.block z hz).1)); have HO8 := Lib.hid ho8; clear ho8 hg8))
  go_ret2
  refine ⟨_, rfl, ?_, HB4.out.trans (HB8.out.mono hs4)⟩
  have h := HO8.out.mono hs4
  rw [List.nil_append] at h
  exact h

theorem exec_strneq {P : Program} {a : Act} {o : Oper} {t u : TypeId} {x y : Operand} (ho : o.op = .binOp .neq t x y u) (lx ly : List UInt8) (hx : a.eval x = .string ⟨lx.toArray⟩) (hy : a.eval y = .string ⟨ly.toArray⟩) (w : World) :
    (execOp a.eval o).run P w = .ok (.value (.bool (!(decide (lx = ly))))) w := by
  have e : execOp a.eval o = (do let v ← (do eqGuard .neq t x y (a.eval x) (a.eval y); binOp .neq t (a.eval x) (a.eval y)); pure (.value v)) := by unfold execOp; rw [ho]
  rw [e, hx, hy]
  clear e hx hy
  simp [eqGuard, binOp, Op.stringOp, go_sem]
  rw [Bool.eq_iff_iff]; simp
theorem exec_str {a : Act} {o : Oper} {x : Operand} (ho : o.op = .convert 22 9 x) {w : World} {B : Nat} {v : Value} {l : List UInt8} (hx : a.eval x = v) (h : RdB w B v l) :
    (execOp a.eval o).run Try.prog w = .ok (.value (.string ⟨l.toArray⟩)) w := by
  have e : execOp a.eval o = (do let v ← convert 22 9 (a.eval x); pure (.value v)) := by unfold execOp; rw [ho]
  rw [e, hx]
  have h2 := run_str h
  simp [go_sem, h2]

set_option maxHeartbeats 1000000 in
set_option maxRecDepth 100000 in
theorem open13_bad (z : Int) (hz : -9223372036854775808 ≤ z ∧ z ≤ 9223372036854775807) (sd : List UInt8) (vp vs : Value) (B : Nat) (w : World) (hs : RdB w B vs sd) (n : Nat) (hz0 : szN z = n) (hbad : n = 0 ∨ sd.length < n / 2 + 12) :
    Calls Try.prog 17 #[.int .i64 z, vp, vs] w fun e w' => e = .returned (.tuple #[.slice none 0 0, .int .i64 130]) ∧ w = w' := by
  obtain ⟨base, cap, rfl, hc1, hc2, _, _⟩ := hs
  have hc := szN_cases z
  have hsz := size13_any z hz
  rw [hz0] at hc hsz
  have HSZ := Lib.hid hsz; clear hsz hz0 hz
  by_cases h0 : n = 0
  · subst h0
    go_enter Try.func17, Try.ntmps17
    go_wp2_with (go_at_call 27; refine (HSZ.out _).mono ?_; rintro e w1 ⟨rfl, rfl⟩)
    go_ret2
    exact ⟨rfl, rfl⟩
  · have hn32 : n ≤ 32 := by omega
    have hb0 : ((n : Int) == 0) = false := by rw [beq_eq_false_iff_ne]; omega
    obtain ⟨h, hh, hL⟩ : ∃ h, n = 2 * h ∧ sd.length < h + 12 := by
      rcases hbad with hbad | hbad
      · exact absurd hbad h0
      · exact ⟨n / 2, by omega, hbad⟩
    have hhn : (n : Int) / 2 = (h : Int) := by omega
    have hb1 : decide ((sd.length : Int) < (h : Int) + 12) = true := decide_eq_true (by omega)
    have hh16 : h ≤ 16 := by omega
    clear hbad hh
    go_enter Try.func17, Try.ntmps17
    go_wp2_with (go_at_call 27; refine (HSZ.out _).mono ?_; rintro e w1 ⟨rfl, rfl⟩)
    go_ret2
    exact ⟨rfl, rfl⟩
end Go.Proofs.Ytnbjpilanjngmaa.XS
