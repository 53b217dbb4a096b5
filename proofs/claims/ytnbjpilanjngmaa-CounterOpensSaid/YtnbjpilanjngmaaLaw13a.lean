/- The walks over the laws of layer 13: the living data. -/
import Derived.Test.YtnbjpilanjngmaaLaw13P
import Derived.Lib.SmallJoins
import Derived.Lib.BufferRead
namespace Go.Proofs.Ytnbjpilanjngmaa.XS
open Go Go.RowKit

/-- A slice that reads as bytes, as a string. -/
theorem run_str {w : World} {B : Nat} {v : Value} {l : List UInt8} (h : RdB w B v l) : (convert 22 9 v).run Try.prog w = .ok (.string ⟨l.toArray⟩) w := by
  obtain ⟨base, cap, rfl, h1, h2, hn, h3⟩ := h
  cases base with
  | none =>
    have h0 := hn rfl
    have : l = [] := List.eq_nil_of_length_eq_zero (by omega)
    subst this
    exact Go.Lib.run_convert_nil_bytes w 22 9 5 cap Try.underlying22 Try.underlying5 Try.underlying9
  | some a =>
    refine run_convert_bytes_back w 22 9 5 a cap l Try.underlying22 Try.underlying5 Try.underlying9 fun j hj => ?_
    obtain ⟨b, o, hb, _, hc⟩ := h3 (by omega)
    obtain rfl := Option.some.inj hb
    have h4 := hc j hj
    have hadd : (⟨b, o, none⟩ : Addr).add j = ⟨b, o + j, none⟩ := by unfold Addr.add; split <;> simp_all
    rw [hadd, h4]; simp [hj]
theorem RdB.mark (w : World) (l : List UInt8) (E : TypeId) (fr : Nat × Nat) (hl : l.length ≤ 9223372036854775807) : RdB (w.alloc (.cells (bytesV l) E fr)) (w.heap.size + 1) (.slice (some ⟨w.heap.size, 0, none⟩) l.length l.length) l :=
  ⟨_, l.length, rfl, Nat.le_refl _, hl, (fun e => by cases e), fun _ => ⟨w.heap.size, 0, rfl, by omega, fun i hi => by
    rw [Nat.zero_add, World.cell?_alloc_mark]; exact bytesV_get l i hi⟩⟩
set_option maxHeartbeats 1000000 in
set_option maxRecDepth 100000 in
theorem alive13_any (w : World) :
    Calls Try.prog 11 #[] w fun e w' => e = .returned (.bool true) ∧ Below w.heap.size w w' := by
  have kc := fun (w : World) (C : Array Value) (n c g : Nat) (hg : g = w.heap.size) => Go.Joins.run_convert_bytes_const_at (P := Try.prog) w 22 5 C n c g hg Try.underlying22 Try.underlying5
  go_enter Try.func11, Try.ntmps11
  go_wp2_with fail
  have b1 := (Below.refl w.heap.size w).alloc (Nat.le_refl _) (Obj.cells (bytesV [112]) 5 (1, 2))
  have r1 := RdB.mark w [112] 5 (1, 2) (by simp)
  have r2 := RdB.mark (w.alloc (Obj.cells (bytesV [112]) 5 (1, 2))) [115, 97, 108, 116, 115, 97, 108, 116] 5 (8, 9) (by simp)
  have r3 := RdB.mark ((w.alloc (Obj.cells (bytesV [112]) 5 (1, 2))).alloc (Obj.cells (bytesV [115, 97, 108, 116, 115, 97, 108, 116]) 5 (8, 9))) [97, 98] 5 (2, 3) (by simp)
  have hz : ((w.alloc (Obj.cells (bytesV [112]) 5 (1, 2))).alloc (Obj.cells (bytesV [115, 97, 108, 116, 115, 97, 108, 116]) 5 (8, 9))).heap.size = w.heap.size + 2 := by simp
  have hz1 : (w.alloc (Obj.cells (bytesV [112]) 5 (1, 2))).heap.size = w.heap.size + 1 := by simp
  have c2 := (Below.refl (w.heap.size + 1) (w.alloc (Obj.cells (bytesV [112]) 5 (1, 2)))).alloc (by rw [hz1]; exact Nat.le_refl _) (Obj.cells (bytesV [115, 97, 108, 116, 115, 97, 108, 116]) 5 (8, 9))
  have c3 := (Below.refl (w.heap.size + 2) ((w.alloc (Obj.cells (bytesV [112]) 5 (1, 2))).alloc (Obj.cells (bytesV [115, 97, 108, 116, 115, 97, 108, 116]) 5 (8, 9)))).alloc (by rw [hz]; exact Nat.le_refl _) (Obj.cells (bytesV [97, 98]) 5 (2, 3))
  rw [hz1] at r2
  rw [hz] at r3
  have R1 := Lib.hid (((r1.below c2 (Nat.le_refl _)).below c3 (by omega)).mono (show w.heap.size + 1 ≤ w.heap.size + 3 by omega))
  have R2 := Lib.hid ((r2.below c3 (by omega)).mono (show w.heap.size + 1 + 1 ≤ w.heap.size + 3 by omega))
  have R3 := Lib.hid r3
  have HB := Lib.hid ((b1.trans (c2.mono (by omega))).trans (c3.mono (by omega)))
  have hz3 : (((w.alloc (Obj.cells (bytesV [112]) 5 (1, 2))).alloc (Obj.cells (bytesV [115, 97, 108, 116, 115, 97, 108, 116]) 5 (8, 9))).alloc (Obj.cells (bytesV [97, 98]) 5 (2, 3))).heap.size = w.heap.size + 3 := by simp
  clear b1 r1 r2 r3 c2 c3 hz1 hz
  refine (seal_ok 1 [112] [115, 97, 108, 116, 115, 97, 108, 116] [97, 98] _ _ _ (w.heap.size + 3) _ (by rw [← hz3]; exact Nat.le_refl _) R1.out R2.out R3.out 16 rfl (by omega) rfl (by simp) (by simp)).mono ?_
  rintro e w1 ⟨v, rfl, hf, hb⟩
  have HB1 := Lib.hid (HB.out.trans (hb.mono HB.out.size)); clear hb
  obtain ⟨SD, hSD⟩ : ∃ SD, SD = sealB 16 [112] [115, 97, 108, 116, 115, 97, 108, 116] [97, 98] := ⟨_, rfl⟩
  have hE : openE 16 [112] SD = 0 := by rw [hSD]; exact back_err rfl (by omega)
  have hD : openD 16 [112] SD = [97, 98] := by rw [hSD]; exact back_data rfl (by omega)
  have hS : oSalt 16 SD = [115, 97, 108, 116, 115, 97, 108, 116] := by rw [hSD]; exact back_salt rfl
  have hl22 : SD.length = 22 := by rw [hSD, sealB_length]; rfl
  rw [← hSD] at hf
  clear hSD
  have hrd := hf.rd
  obtain ⟨g, cap, rfl, hg, hc1, hc2, hcell, _⟩ := hf
  rw [hl22] at hrd hc1 hcell ⊢
  have hglt : g < w1.heap.size := World.block_lt_of_cell? w1 _ (hcell 0 (by omega))
  have HE := Lib.hid hE
  have HD := Lib.hid hD
  have HSA := Lib.hid hS
  have HL := Lib.hid hl22
  have HC := Lib.hid hcell
  have HRD := Lib.hid hrd
  clear hE hD hS hl22 hcell hrd R1 R2 R3 HB hz3
  go_wp2_with fail
  have r4 := RdB.mark w1 [112] 5 (1, 2) (by simp)
  have b4 := (Below.refl w1.heap.size w1).alloc (Nat.le_refl _) (Obj.cells (bytesV [112]) 5 (1, 2))
  have hz4 : (w1.alloc (Obj.cells (bytesV [112]) 5 (1, 2))).heap.size = w1.heap.size + 1 := by simp
  have R4 := Lib.hid r4
  have HRD4 := Lib.hid ((HRD.out.below b4 (Nat.le_refl _)).mono (Nat.le_succ _))
  have HB4 := Lib.hid (HB1.out.trans (b4.mono HB1.out.size))
  clear r4 b4
  refine (open_ok 1 [112] SD _ _ (w1.heap.size + 1) _ (by rw [← hz4]; exact Nat.le_refl _) R4.out HRD4.out 16 rfl (by omega) (by rw [HL.out]; omega) (by simp) (by rw [HL.out]; omega)).mono ?_
  rintro e w2 ⟨v2, rfl, hr2, hb2⟩
  rw [HE.out]
  rw [HD.out] at hr2
  have HB2 := Lib.hid (HB4.out.trans (hb2.mono HB4.out.size))
  have hs2 := run_str hr2
  have hb8 : RdB w2 w2.heap.size (.slice (some ⟨g, 0, none⟩) 8 cap) [115, 97, 108, 116, 115, 97, 108, 116] := by
    have h1 := RdB.ofCells (w := w2) (g := g) (o := 0) (n := 8) (cap := cap) (f := byteAt SD) (by have := hb2.size; omega) (by omega) (by omega) fun i hi => by
      rw [Nat.zero_add]
      exact (hb2.cell (p := ⟨g, i, none⟩) (by show g < _; omega)).trans (((Below.refl w1.heap.size w1).alloc (Nat.le_refl _) (Obj.cells (bytesV [112]) 5 (1, 2))).cell (p := ⟨g, i, none⟩) hglt |>.trans (HC.out i (by omega)))
    have h2 := HSA.out
    unfold oSalt at h2
    rw [← h2]; exact h1
  have hs8 := run_str hb8
  obtain ⟨bv, cv, rfl, _, _, _, _⟩ := hr2
  have hcap8 : (8 : Int) ≤ (cap : Int) := by omega
  have hs2' : (convert 22 9 (.slice bv 2 cv)).run Try.prog w2 = .ok (.string ⟨#[97, 98]⟩) w2 := hs2
  clear hb2 hb8 kc hs2
  go_wp2
  go_ret
  exact ⟨rfl, HB2.out⟩
end Go.Proofs.Ytnbjpilanjngmaa.XS
