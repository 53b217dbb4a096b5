/- The walks over package counter, third part: sealed. -/
import Derived.Test.YtnbjpilanjngmaaCtr2
import Derived.Test.YtnbjpilanjngmaaJoin
namespace Go.Proofs.Ytnbjpilanjngmaa.XS
open Go Go.RowKit

def kKey (n : Nat) (pw salt : List UInt8) : List UInt8 := mk n (pbk pw salt 1000)
def kSeal (n : Nat) (pw salt : List UInt8) : List UInt8 := mk n fun i => pbk pw salt 1000 (n + i)
def kSaw (n : Nat) (pw salt : List UInt8) : List UInt8 := mk 2 fun i => pbk pw salt 1000 (2 * n + i)
def insideB (n : Nat) (pw salt data : List UInt8) : List UInt8 := mk data.length (strm (n / 4) (kKey n pw salt) data)
def tagB (n : Nat) (pw salt ins : List UInt8) : List UInt8 := mk 10 (hmac (kSeal n pw salt) ins)
/-- What is sealed. -/
def sealB (n : Nat) (pw salt data : List UInt8) : List UInt8 := salt ++ kSaw n pw salt ++ insideB n pw salt data ++ tagB n pw salt (insideB n pw salt data)
theorem szN_cases (z : Int) : szN z = 0 ∨ szN z = 16 ∨ szN z = 24 ∨ szN z = 32 := by
  unfold szN
  split
  · omega
  · split
    · omega
    · split <;> omega

set_option maxHeartbeats 1000000 in
set_option maxRecDepth 100000 in
theorem seal_bad (z : Int) (pw salt data : List UInt8) (vp vs vd : Value) (B : Nat) (w : World) (hs : RdB w B vs salt) (hbad : szN z = 0 ∨ 2 * salt.length ≠ szN z) :
    Calls Try.prog 14 #[.int .i64 z, vp, vs, vd] w fun e w' => e = .returned (.tuple #[.slice none 0 0, .int .i64 130]) ∧ w = w' := by
  obtain ⟨base, cap, rfl, hc1, hc2, _, _⟩ := hs
  have hc := szN_cases z
  obtain ⟨n, hn⟩ : ∃ n, n = szN z := ⟨_, rfl⟩
  have hsz := size_any z
  rw [← hn] at hbad hc hsz
  have HSZ := Lib.hid hsz; clear hsz hn
  by_cases h0 : n = 0
  · subst h0
    go_enter Try.func14, Try.ntmps14
    go_wp2_with (go_at_call 23; refine (HSZ.out _).mono ?_; rintro e w1 ⟨rfl, rfl⟩)
    go_ret2
    exact ⟨rfl, rfl⟩
  · have hn32 : n ≤ 32 := by omega
    have hb0 : ((n : Int) == 0) = false := by rw [beq_eq_false_iff_ne]; omega
    have hb1 : ((salt.length : Int) != (n : Int) / 2) = true := by simp; omega
    clear hbad
    go_enter Try.func14, Try.ntmps14
    go_wp2_with (go_at_call 23; refine (HSZ.out _).mono ?_; rintro e w1 ⟨rfl, rfl⟩)
    go_ret2
    exact ⟨rfl, rfl⟩
set_option maxHeartbeats 2000000 in
set_option maxRecDepth 100000 in
theorem seal_ok (z : Int) (pw salt data : List UInt8) (vp vs vd : Value) (B : Nat) (w : World) (hB : B ≤ w.heap.size) (hp : RdB w B vp pw) (hs : RdB w B vs salt) (hd : RdB w B vd data) (n : Nat) (hz0 : szN z = n) (hn0 : n ≠ 0) (hsl : 2 * salt.length = n) (hlp : pw.length ≤ 140737488360000) (hld : data.length + 28 ≤ 140737488355328) :
    Calls Try.prog 14 #[.int .i64 z, vp, vs, vd] w fun e w' => ∃ v, e = .returned (.tuple #[v, .int .i64 0]) ∧ FrB w' w.heap.size v (sealB n pw salt data) ∧ Below w.heap.size w w' := by
  have hc := szN_cases z
  have hsz := size_any z
  rw [hz0] at hc hsz
  have hn3 : n = 16 ∨ n = 24 ∨ n = 32 := by omega
  have hn32 : n ≤ 32 := by omega
  have HN3 := Lib.hid hn3; clear hn3 hc hz0
  have HSZ := Lib.hid hsz; clear hsz
  have HP := Lib.hid hp; clear hp
  have HS := Lib.hid hs; clear hs
  have HD := Lib.hid hd; clear hd
  have hz20 : ∀ w : World, (zeroValue 50).run Try.prog w = .ok (.agg (bytesV (zeros 20))) w := fun w => by kernel_rfl
  obtain ⟨bs, cs, rfl, hcs1, hcs2, _, _⟩ := HS.out
  have hb0 : ((n : Int) == 0) = false := by rw [beq_eq_false_iff_ne]; omega
  have hb1 : ((salt.length : Int) != (n : Int) / 2) = false := by simp; omega
  have HSL := Lib.hid hsl; clear hsl
  have hls : salt.length ≤ 16 := by have := HN3.out; have := HSL.out; omega
  go_enter Try.func14, Try.ntmps14
  go_upto_region 4 with (go_at_call 23; refine (HSZ.out _).mono ?_; rintro e w1 ⟨rfl, rfl⟩)
  go_wp2_with fail
  refine (keys_any n pw salt vp _ B _ HN3.out hB HP.out HS.out hlp (by omega)).mono ?_
  rintro e w1 ⟨v1, v2, v3, rfl, hr1, hr2, hr3, hb⟩
  have HB1 := Lib.hid hb; clear hb
  have HR1 := Lib.hid hr1
  have HR2 := Lib.hid hr2
  have HR3 := Lib.hid hr3
  clear hr1 hr2
  obtain ⟨b3, c3, rfl, hc31, hc32, _, _⟩ := hr3
  rw [mk_length] at hc31 HR3 ⊢
  have hs1 := HB1.out.size
  go_wp2_with fail
  refine (stream_ok _ _ _ (kKey n pw salt) data (n / 4) w1.heap.size (Nat.le_refl _) HR1.out ((HD.out.below HB1.out hB).mono (by omega)) (by unfold kKey; rw [mk_length]; have := HN3.out; omega) (by have := HN3.out; omega) (by omega)).mono ?_
  rintro e w2 ⟨ob, hob1, rfl, hob, hb2⟩
  have HB2 := Lib.hid (HB1.out.trans (hb2.mono hs1))
  have HOB := Lib.hid hob
  have hs2 := hb2.size
  have HR22 := Lib.hid (HR2.out.below hb2 (Nat.le_refl _))
  have HR32 := Lib.hid (HR3.out.below hb2 (Nat.le_refl _))
  have hri := RdB.ofBlk hob (by rw [mk_length]; omega)
  rw [mk_length] at hri
  have HRI := Lib.hid hri
  have hlt2 := hob.lt
  clear hb2 hob hri
  have hli : (mk data.length (strm (n / 4) (kKey n pw salt) data)).length = data.length := mk_length _ _
  have HLI := Lib.hid hli; clear hli
  go_wp2_with fail
  refine (mac_any (kSeal n pw salt) (insideB n pw salt data) _ _ w2.heap.size _ (Nat.le_refl _) (HR22.out.mono hs2) HRI.out (by unfold kSeal; rw [mk_length]; have := HN3.out; omega) (by unfold insideB; rw [HLI.out]; omega)).mono ?_
  rintro e w3 ⟨rfl, hb3⟩
  have HB3 := Lib.hid (HB2.out.trans (hb3.mono (by omega)))
  have hs3 := hb3.size
  have HR33 := Lib.hid ((HR32.out.mono hs2).below hb3 (Nat.le_refl _))
  have HRI3 := Lib.hid (HRI.out.below hb3 (Nat.le_refl _))
  clear hb3
  go_upto_region 9 with (refine wpList_storeO rfl _ _ _ rfl w3.heap.size _ _ rfl rfl _ (Blk.new _ _ _) 20 (by kernel_rfl) (by rw [bytesV_size, mk_length]) (by rw [bytesV_size, zeros_length]) (bytesV_one _) ?_; intro w4 ho4 hb4)
  have hb34 := ho4.below ((Below.refl w3.heap.size w3).alloc (Nat.le_refl _) (Obj.cells (bytesV (zeros 20)) 50)) (Nat.le_refl _)
  have HB4 := Lib.hid (HB3.out.trans (hb34.mono (by omega)))
  have HR34 := Lib.hid ((HR33.out.mono hs3).below hb34 (Nat.le_refl _))
  have HRI4 := Lib.hid ((HRI3.out.mono hs3).below hb34 (Nat.le_refl _))
  have hrt : RdB w4 w4.heap.size (.slice (some ⟨w3.heap.size, 0, none⟩) 10 20) (tagB n pw salt (insideB n pw salt data)) := RdB.ofCells hb4.lt (by omega) (by omega) fun i hi => by
    rw [Nat.zero_add]
    have h := hb4.byte i (by rw [mk_length]; omega)
    rwa [mk_get (by omega)] at h
  have HRT := Lib.hid hrt
  have hs4 := hb34.size
  have HS4 := Lib.hid (HS.out.below HB4.out hB)
  clear ho4 hb4 hb34 hrt
  try simp only [Act.put]
  go_wp2_with fail
  have hal := (Below.refl w4.heap.size w4).alloc (Nat.le_refl _) (Obj.cells #[Value.slice bs salt.length cs, Value.slice b3 2 c3, Value.slice (some ⟨ob, 0, none⟩) data.length data.length, Value.slice (some ⟨w3.heap.size, 0, none⟩) 10 20] 22)
  have l2 : (kSaw n pw salt).length = 2 := mk_length _ _
  have l3 : (insideB n pw salt data).length = data.length := mk_length _ _
  have l4 : (tagB n pw salt (insideB n pw salt data)).length = 10 := mk_length _ _
  refine (join4_any _ w4.heap.size _ _ _ _ salt (kSaw n pw salt) (insideB n pw salt data) (tagB n pw salt (insideB n pw salt data)) w4.heap.size (Blk.new _ _ _) ((HS4.out.mono (by omega)).below hal (Nat.le_refl _)) ((HR34.out.mono hs4).below hal (Nat.le_refl _)) ((HRI4.out.mono hs4).below hal (Nat.le_refl _)) (HRT.out.below hal (Nat.le_refl _)) (by rw [l2, l3, l4]; omega)).mono ?_
  rintro e w5 ⟨v5, rfl, hf, hb5⟩
  have HB5 := Lib.hid ((HB4.out.trans (hal.mono (by omega))).trans (hb5.mono (by have := hal.size; omega)))
  have HF := Lib.hid (hf.mono (B' := w.heap.size) (by have := hal.size; omega))
  clear hb5 hf hal
  go_wp2
  go_ret2
  exact ⟨_, rfl, HF.out, HB5.out⟩
end Go.Proofs.Ytnbjpilanjngmaa.XS
