/- The laws of layer 13: a case's argument opened. -/
import Derived.Test.YtnbjpilanjngmaaRow
import Derived.Lib.SmallJoins
namespace Go.Proofs.Ytnbjpilanjngmaa.XS
open Go Go.RowKit Go.ChangeShapes Go.WideShapes Go.ChangeAt

section
variable {H : Type} {enc : TypeId × Value → H} {P : Program} {W : World}
/-- A slice of bytes among the cells of a struct. -/
theorem open_bytesC {t e : TypeId} {c : Value} {fuel : Nat} {y : DataW H × List MemPlace} (ht : P.underlying t = some (.slice e)) (he : P.underlying e = some (.int .u8)) (hc : P.cellsOf e = 1)
    (hf : DataW.trod enc P W 0 (fun _ => true) true fuel t [c] = some y) (hlt : ∀ x ∈ y.2, x.block < W.heap.size)
    (hz : ∀ es sp, y.1 = .slice es sp → es.length + sp.length ≤ 140737488351232) : ∃ l, RdB W W.heap.size c l ∧ l.length ≤ 140737488351232 := by
  rcases open_ints ht he hc hf with ⟨hcs, hx⟩ | ⟨a, len, cap, zs, hcs, _, hl, hm, hz', hx, hcell, hwz⟩
  · simp at hcs
    subst hcs
    exact ⟨[], ⟨none, 0, rfl, by simp, by omega, fun _ => rfl, fun h => by simp at h⟩, by simp⟩
  · simp at hcs
    subst hcs
    simp only [if_true] at hz'
    have hlen : ((zs.take len).map fun n => UInt8.ofNat n.toNat).length = len := by simp; omega
    have hcap : cap ≤ 140737488351232 := by
      have h1 := hz _ _ (by rw [hx])
      simp [lits] at h1
      omega
    refine ⟨(zs.take len).map fun n => UInt8.ofNat n.toNat, ⟨some a, cap, by rw [hlen], by rw [hlen]; exact hl, by unfold maxLen at hm; omega, (fun e => by cases e), fun hp => ?_⟩, by rw [hlen]; omega⟩
    rw [hlen] at hp
    have h0 := hcell 0 (by omega)
    have hsp : a.spot = none := by
      cases hs : a.spot with
      | none => rfl
      | some s =>
        exfalso
        simp [Addr.add, World.cell?, hs] at h0
        split at h0 <;> simp at h0
    obtain ⟨b, o, s⟩ := a
    simp only at hsp
    subst hsp
    have hadd : ∀ j, (⟨b, o, none⟩ : Addr).add j = ⟨b, o + j, none⟩ := fun j => by unfold Addr.add; split <;> simp_all
    refine ⟨b, o, rfl, ?_, fun i hi => ?_⟩
    · refine hlt (.cell b o) ?_
      rw [hx]
      have : 0 < zs.length := by omega
      simp [MemPlace.row]
      exact this
    · rw [hlen] at hi
      have hc1 := hcell i (by omega)
      rw [hadd] at hc1
      rw [hc1]
      have hi2 : i < zs.length := by omega
      have hwi := wf_u8 (hwz zs[i] (List.getElem_mem hi2))
      have e1 : zs.getD i 0 = zs[i] := by simp [hi2]
      have e2 : ((zs.take len).map fun n => UInt8.ofNat n.toNat)[i]?.getD 0 = UInt8.ofNat zs[i].toNat := by simp [hi, hi2]
      rw [e1, e2, ← hwi]
end
/-- A case: how it is sealed, with what. -/
theorem open_case {H : Type} {enc : TypeId × Value → H} {W : World} {r : Reach} {b0 : Nat} {v : Value} {d : DataW H} {ps : List MemPlace} (hval : Value.okWide Try.prog W r b0 29 v)
    (h : DataW.Trod enc Try.prog W 0 (fun _ => true) true 29 v d ps) (hlt : ∀ x ∈ ps, x.block < W.heap.size) (hz : ∀ n ∈ d.weights Try.prog 29, n ≤ reachBytes) :
    ∃ (z : Int) (vp vs vd : Value) (pw salt data : List UInt8), v = .agg #[.int .i64 z, vp, vs, vd] ∧ RdB W W.heap.size vp pw ∧ pw.length ≤ 140737488351232 ∧ RdB W W.heap.size vs salt ∧ salt.length ≤ 140737488351232 ∧ RdB W W.heap.size vd data ∧ data.length ≤ 140737488351232 := by
  obtain ⟨fuel, hf⟩ := h
  unfold Value.okWide at hval
  rw [Try.underlying29] at hval
  obtain ⟨cs, rfl, hsz, _⟩ := hval
  have h4 : cs.size = 4 := by rw [hsz]; kernel_rfl
  obtain ⟨c0, c1, c2, c3, rfl⟩ := Go.Joins.array4 h4
  obtain ⟨y0, y1, y2, y3, n, hx, _, t0, t1, t2, t3⟩ := Go.Joins.trod_struct4 Try.underlying29 hf
  have k3 : Try.prog.cellsOf 3 = 1 := by kernel_rfl
  have k22 : Try.prog.cellsOf 22 = 1 := by kernel_rfl
  simp only [k3, k22, Value.cells] at t0 t1 t2 t3
  simp at t0 t1 t2 t3
  simp only [Prod.mk.injEq] at hx
  obtain ⟨hx1, hx2⟩ := hx
  obtain ⟨z, hz0, _, _⟩ := DataW.trod_int Try.underlying3 t0
  simp at hz0
  subst hz0
  rw [hx1] at hz
  have hw : (DataW.weightsEach Try.prog [3, 22, 22, 22] [y0.1, y1.1, y2.1, y3.1]).all (· ≤ reachBytes) = true := by
    rw [List.all_eq_true]
    intro n hn
    refine decide_eq_true (hz n ?_)
    unfold DataW.weights
    rw [Try.underlying29]
    exact hn
  have b1 : Try.prog.bytesOf 5 = 1 := by kernel_rfl
  have sz : ∀ (j : Nat) (y : DataW H × List MemPlace), [3, 22, 22, 22][j]? = some 22 → [y0.1, y1.1, y2.1, y3.1][j]? = some y.1 → ∀ es sp, y.1 = .slice es sp → es.length + sp.length ≤ 140737488351232 := fun j y hj hy es sp he => by
    have := sized_slice (P := Try.prog) hw (j := j) hj (by rw [hy, he]) Try.underlying22
    rw [b1] at this; unfold reachBytes at this; omega
  obtain ⟨l1, r1, q1⟩ := open_bytesC Try.underlying22 Try.underlying5 (by kernel_rfl) t1 (fun x hx => hlt x (by rw [hx2]; simp [hx])) (sz 1 y1 rfl rfl)
  obtain ⟨l2, r2, q2⟩ := open_bytesC Try.underlying22 Try.underlying5 (by kernel_rfl) t2 (fun x hx => hlt x (by rw [hx2]; simp [hx])) (sz 2 y2 rfl rfl)
  obtain ⟨l3, r3, q3⟩ := open_bytesC Try.underlying22 Try.underlying5 (by kernel_rfl) t3 (fun x hx => hlt x (by rw [hx2]; simp [hx])) (sz 3 y3 rfl rfl)
  exact ⟨z, c1, c2, c3, l1, l2, l3, rfl, r1, q1, r2, q2, r3, q3⟩
end Go.Proofs.Ytnbjpilanjngmaa.XS
