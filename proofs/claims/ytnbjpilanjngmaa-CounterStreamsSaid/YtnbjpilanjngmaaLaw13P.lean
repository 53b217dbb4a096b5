/- What was sealed is opened as it was, in plain Lean. No program in sight. -/
import Derived.Test.YtnbjpilanjngmaaCtr4
namespace Go.Proofs.Ytnbjpilanjngmaa.XS
open Go

theorem mid_part {x y z : List UInt8} {n : Nat} (hy : y.length = n) : mk n (fun i => byteAt (x ++ y ++ z) (x.length + i)) = y := by
  subst hy
  rw [mk_congr (g := byteAt y) fun i hi => by
    rw [byteAt_left (by rw [List.length_append]; omega), byteAt_right (by omega)]; congr 1; omega]
  exact mk_self y _ rfl
theorem strm_twice (n : Nat) (key data : List UInt8) : mk (mk data.length (strm n key data)).length (strm n key (mk data.length (strm n key data))) = data := by
  rw [mk_length, mk_congr (g := byteAt data) fun i hi => by
    unfold strm
    have : byteAt (mk data.length fun i => xr (byteAt data i) (ksb n key i)) i = xr (byteAt data i) (ksb n key i) := mk_get hi
    rw [this]
    unfold xr
    rw [UInt8.xor_assoc, UInt8.xor_self, UInt8.xor_zero]]
  exact mk_self data _ rfl
section
variable {n : Nat} {pw salt data : List UInt8}
theorem l_saw : (kSaw n pw salt).length = 2 := mk_length _ _
theorem l_ins : (insideB n pw salt data).length = data.length := mk_length _ _
theorem l_tag (ins : List UInt8) : (tagB n pw salt ins).length = 10 := mk_length _ _
theorem sealB_length : (sealB n pw salt data).length = salt.length + data.length + 12 := by
  unfold sealB
  rw [List.length_append, List.length_append, List.length_append, l_saw, l_ins, l_tag]; omega
theorem back_salt (hs : 2 * salt.length = n) : oSalt n (sealB n pw salt data) = salt := by
  have h := mid_part (x := []) (y := salt) (z := kSaw n pw salt ++ insideB n pw salt data ++ tagB n pw salt (insideB n pw salt data)) (n := n / 2) (by omega)
  unfold oSalt sealB
  rw [← List.append_assoc, ← List.append_assoc] at h
  rw [mk_congr (f := fun i => byteAt ([] ++ salt ++ kSaw n pw salt ++ insideB n pw salt data ++ tagB n pw salt (insideB n pw salt data)) (([] : List UInt8).length + i)) (g := byteAt (salt ++ kSaw n pw salt ++ insideB n pw salt data ++ tagB n pw salt (insideB n pw salt data))) fun i _ => by rw [List.nil_append, List.length_nil, Nat.zero_add]] at h
  exact h
theorem back_saw (hs : 2 * salt.length = n) : oSaw n (sealB n pw salt data) = kSaw n pw salt := by
  have h := mid_part (x := salt) (y := kSaw n pw salt) (z := insideB n pw salt data ++ tagB n pw salt (insideB n pw salt data)) l_saw
  rw [← List.append_assoc] at h
  unfold oSaw sealB
  rw [show n / 2 = salt.length by omega]; exact h
theorem back_ins (hs : 2 * salt.length = n) : oIns n (sealB n pw salt data) = insideB n pw salt data := by
  have h := mid_part (x := salt ++ kSaw n pw salt) (y := insideB n pw salt data) (z := tagB n pw salt (insideB n pw salt data)) (n := data.length) l_ins
  unfold oIns
  rw [sealB_length, show salt.length + data.length + 12 - n / 2 - 12 = data.length by omega]
  rw [List.length_append, l_saw] at h
  unfold sealB
  rw [show n / 2 = salt.length by omega]; exact h
theorem back_end : oEnd (sealB n pw salt data) = tagB n pw salt (insideB n pw salt data) := by
  have h := mid_part (x := salt ++ kSaw n pw salt ++ insideB n pw salt data) (y := tagB n pw salt (insideB n pw salt data)) (z := []) (n := 10) (l_tag _)
  rw [List.append_nil, List.length_append, List.length_append, l_saw, l_ins] at h
  unfold oEnd
  rw [sealB_length, show salt.length + data.length + 12 - 10 = salt.length + 2 + data.length by omega]
  unfold sealB
  exact h
theorem back_err (hs : 2 * salt.length = n) (h0 : n ≠ 0) : openE n pw (sealB n pw salt data) = 0 := by
  unfold openE
  rw [if_neg (by rw [sealB_length]; omega), back_salt hs, back_saw hs, if_neg (fun h => h rfl), back_ins hs, back_end, if_neg (fun h => h rfl)]
theorem back_data (hs : 2 * salt.length = n) (h0 : n ≠ 0) : openD n pw (sealB n pw salt data) = data := by
  unfold openD
  rw [if_pos (back_err hs h0)]
  unfold oOut
  rw [back_salt hs, back_ins hs]
  exact strm_twice _ _ _
end
end Go.Proofs.Ytnbjpilanjngmaa.XS
