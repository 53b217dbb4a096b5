/- bytes.Join of the kit's shelf, laid at this program. -/
import Derived.Test.YtnbjpilanjngmaaRows
import Derived.Test.YtnbjpilanjngmaaLib3
import Derived.Shelf.Bytes.SlJoin
namespace Go.Proofs.Ytnbjpilanjngmaa.XS
open Go Go.RowKit Go.Shelf

def jren : Ren := ⟨fun k => if k = 14 then 26 else if k = 15 then 42 else k, fun t => if t = 0 then 0 else if t = 3 then 3 else if t = 4 then 4 else if t = 5 then 5 else if t = 9 then 9 else if t = 20 then 20 else if t = 22 then 22 else if t = 26 then 43 else t, fun g => g⟩
theorem jlays : SlLaysJ.n14 Try.prog jren where
  mixed := by kernel_rfl
  f14 := by kernel_rfl
  f15 := by kernel_rfl
  t0 := by kernel_rfl
  a0 := fun w => by kernel_rfl
  z0 := fun w => by kernel_rfl
  v0 := fun w => by kernel_rfl
  t3 := by kernel_rfl
  a3 := fun w => by kernel_rfl
  z3 := fun w => by kernel_rfl
  v3 := fun w => by kernel_rfl
  t4 := by kernel_rfl
  a4 := fun w => by kernel_rfl
  z4 := fun w => by kernel_rfl
  v4 := fun w => by kernel_rfl
  t9 := by kernel_rfl
  a9 := fun w => by kernel_rfl
  z9 := fun w => by kernel_rfl
  v9 := fun w => by kernel_rfl
  t20 := by kernel_rfl
  a20 := fun w => by kernel_rfl
  z20 := fun w => by kernel_rfl
  v20 := fun w => by kernel_rfl
  t22 := by kernel_rfl
  a22 := fun w => by kernel_rfl
  z22 := fun w => by kernel_rfl
  v22 := fun w => by kernel_rfl
  t26 := by kernel_rfl
  a26 := fun w => by kernel_rfl
  z26 := fun w => by kernel_rfl
  v26 := fun w => by kernel_rfl
  t5 := by kernel_rfl
  z5 := fun w => by kernel_rfl
  i5 := by kernel_rfl

/-- A fresh slice of bytes, from block B on, that may be written. -/
def FrB (w : World) (B : Nat) (v : Value) (l : List UInt8) : Prop :=
  ∃ g cap, v = .slice (some ⟨g, 0, none⟩) l.length cap ∧ B ≤ g ∧ l.length ≤ cap ∧ cap ≤ 9223372036854775807 ∧ (∀ i, i < l.length → w.cell? ⟨g, i, none⟩ = some (.int .u8 ((byteAt l i).toNat : Int))) ∧ ∀ i, i < l.length → w.frozen? ⟨g, i, none⟩ = false
theorem FrB.rd {w : World} {B : Nat} {v : Value} {l : List UInt8} (h : FrB w B v l) : RdB w w.heap.size v l := by
  obtain ⟨g, cap, rfl, hB, hc, hm, hcell, _⟩ := h
  exact ⟨_, cap, rfl, hc, hm, (fun e => by cases e), fun hp => ⟨g, 0, rfl, World.block_lt_of_cell? w _ (hcell 0 hp), fun i hi => by rw [Nat.zero_add]; exact hcell i hi⟩⟩
theorem FrB.below {w w' : World} {B B' : Nat} {v : Value} {l : List UInt8} (h : FrB w B v l) (hb : Below B' w w') (hB : w.heap.size ≤ B') : FrB w' B v l := by
  obtain ⟨g, cap, rfl, hBg, hc, hm, hcell, hf⟩ := h
  refine ⟨g, cap, rfl, hBg, hc, hm, fun i hi => ?_, fun i hi => ?_⟩
  · have := World.block_lt_of_cell? w _ (hcell i hi)
    exact (hb.cell (p := ⟨g, i, none⟩) (by show g < B'; simp only at this; omega)).trans (hcell i hi)
  · have := World.block_lt_of_cell? w _ (hcell i hi)
    simp only at this
    rw [World.frozen?_of_block (w := w) (hb.block g (by omega))]; exact hf i hi
theorem FrB.mono {w : World} {B B' : Nat} {v : Value} {l : List UInt8} (h : FrB w B v l) (hB : B' ≤ B) : FrB w B' v l := by
  obtain ⟨g, cap, rfl, hBg, r⟩ := h
  exact ⟨g, cap, rfl, by omega, r⟩
theorem FrB.of {w : World} {B : Nat} {v : Value} {l : List UInt8} (h : Lib.FreshBytes B w v l) : FrB w B v l := by
  obtain ⟨g, cap, zs, rfl, hB, hc, hm, hz, h256, hb, hcell, hf⟩ := h
  refine ⟨g, cap, rfl, hB, hc, by unfold maxLen at hm; omega, fun i hi => ?_, fun i hi => hf i (by omega)⟩
  rw [hcell i (by omega)]
  have hin : i < zs.length := by omega
  have hz2 : zs.getD i 0 = zs[i] := by simp [hin]
  have hl : byteAt l i = UInt8.ofNat zs[i].toNat := by
    unfold byteAt
    rw [← hb]
    simp [Lib.bytesOf, hin, hi]
  have h3 := h256 zs[i] (List.getElem_mem hin)
  rw [hz2, hl, UInt8.toNat_ofNat']
  congr 2; omega
theorem RdB.holds {w : World} {B : Nat} {v : Value} {l : List UInt8} (h : RdB w B v l) : Lib.HoldsBytes w v l := by
  obtain ⟨base, cap, rfl, h1, h2, hn, h3⟩ := h
  refine ⟨base, cap, rfl, fun e => ?_, fun a ha i x hx => ?_⟩
  · have := hn e
    exact List.eq_nil_of_length_eq_zero (by omega)
  · have hi : i < l.length := (List.getElem?_eq_some_iff.1 hx).1
    obtain ⟨b, o, hb, _, hc⟩ := h3 (by omega)
    rw [hb] at ha
    obtain rfl := Option.some.inj ha
    have h4 := hc i hi
    rw [hx] at h4
    have hadd : (⟨b, o, none⟩ : Addr).add i = ⟨b, o + i, none⟩ := by unfold Addr.add; split <;> simp_all
    rw [hadd]; exact h4
/-- Four slices joined. -/
theorem join4_any (w : World) (b : Nat) (v1 v2 v3 v4 : Value) (l1 l2 l3 l4 : List UInt8) (B : Nat) (hb : Blk w b #[v1, v2, v3, v4] 22) (h1 : RdB w B v1 l1) (h2 : RdB w B v2 l2) (h3 : RdB w B v3 l3) (h4 : RdB w B v4 l4)
    (hl : l1.length + l2.length + l3.length + l4.length ≤ 140737488355328) :
    Calls Try.prog 26 #[.slice (some ⟨b, 0, none⟩) 4 4, .slice none 0 0] w fun e w' => ∃ v', e = .returned v' ∧ FrB w' w.heap.size v' (l1 ++ l2 ++ l3 ++ l4) ∧ Below w.heap.size w w' := by
  have hj := Any.bytes_Join_many jlays b 0 4 4 [v1, v2, v3, v4] [l1, l2, l3, l4] (.slice none 0 0) [] w rfl (by omega)
    ⟨rfl, fun i v hv => by
      have hadd : (⟨b, 0, none⟩ : Addr).add i = ⟨b, 0 + i, none⟩ := by unfold Addr.add; split <;> simp_all
      rw [hadd, Nat.zero_add]
      refine hb.cell ?_
      rw [← hv]; simp, fun i v l hv hl => by
      match i with
      | 0 => simp at hv hl; subst hv hl; exact h1.holds
      | 1 => simp at hv hl; subst hv hl; exact h2.holds
      | 2 => simp at hv hl; subst hv hl; exact h3.holds
      | 3 => simp at hv hl; subst hv hl; exact h4.holds
      | i + 4 => simp at hv⟩ (by omega) ⟨none, 0, rfl, fun _ => rfl, fun a ha => by cases ha⟩ (by omega) (by simp [Lib.lens]; omega)
  refine Calls.mono hj fun e w' ⟨v', he, hf, hbl⟩ => ⟨v', he, ?_, hbl⟩
  have e1 : Lib.join [l1, l2, l3, l4] [] = l1 ++ l2 ++ l3 ++ l4 := by simp [Lib.join, Lib.joinTail]
  rw [e1] at hf
  exact FrB.of hf
end Go.Proofs.Ytnbjpilanjngmaa.XS
