/- What every law's row wants: its arguments opened, its post shut. -/
import Derived.Test.YtnbjpilanjngmaaRows
import Derived.Test.YtnbjpilanjngmaaLib
import Derived.ProofKit
import Derived.OpenShut
import Derived.SizedLaws
namespace Go.Proofs.Ytnbjpilanjngmaa.XS
open Go Go.RowKit Go.ChangeShapes Go.WideShapes Go.ChangeAt

theorem own12 : ownKnob Try.prog.godebug = none := by kernel_rfl

section
variable {H : Type} {enc : TypeId × Value → H} {P : Program} {W W' : World}

theorem trodAll_below (hl : laidOutB P = true) (hb : Below W.heap.size W W') : ∀ (ts : List TypeId) (vs : List Value) (ds : List (DataW H)) (ps : List MemPlace),
    (∀ t ∈ ts, P.readableRec t = true ∧ t < P.types.size) → (∀ x ∈ ps, x.block < W.heap.size) → DataW.TrodAll enc P W 0 (fun _ => true) true ts vs ds ps →
    DataW.TrodAll enc P W' 0 (fun b => decide (b < W.heap.size)) true ts vs ds ps
  | [], [], [], _, _, _, h => h
  | t :: ts, v :: vs, d :: ds, ps, ht, hp, h => by
    obtain ⟨p, q, h1, h2, rfl⟩ := h
    refine ⟨p, q, Below.trod hl (ht t (by simp)).1 (ht t (by simp)).2 h1 hb (fun x hx => hp x (by simp [hx])), ?_, rfl⟩
    exact trodAll_below hl hb ts vs ds q (fun t h => ht t (by simp [h])) (fun x hx => hp x (by simp [hx])) h2
  | [], _ :: _, _, _, _, _, h => by cases h
  | [], [], _ :: _, _, _, _, h => by cases h
  | _ :: _, [], _, _, _, _, h => by cases h
  | _ :: _, _ :: _, [], _, _, _, h => by cases h

/-- The parameters' types may be read, and the one result is a bool. -/
def lawB (P : Program) (f : Func) : Bool := laidOutB P && f.params.toList.all (fun t => P.readableRec t && decide (t < P.types.size)) &&
  (match f.resultTypes.toList with | [t] => (match P.underlying t with | some .bool => true | _ => false) | _ => false)
/-- A law's post: true, and all that was there reads as it did. -/
theorem law_post {f : Func} {s : ChangeSpec} {args : Array Value} {ds gs : List (DataW H)} {before : List MemPlace} (hf : lawB P f = true) (hvars : s.vars = [])
    (hres : (s.fn H (ds ++ gs)).results = [.lit (.bool true)]) (hargs : (s.fn H (ds ++ gs)).args = ds) (hgv : (s.fn H (ds ++ gs)).vars = [])
    (hW : DataW.Whole enc P f.params.toList s.vars false W args.toList ds gs before) (hb : Below W.heap.size W W') :
    s.post enc P f false true false false W args (.bool true) W' := by
  simp only [lawB, Bool.and_eq_true] at hf
  obtain ⟨⟨hl, hp⟩, hr⟩ := hf
  split at hr
  · rename_i t ht
    split at hr
    · rename_i hu
      have hW0 := hW
      have hlt := hW.lt
      obtain ⟨p, q, hA, hV, rfl, _, _⟩ := hW
      rw [hvars] at hV
      obtain ⟨rfl, rfl⟩ := trodVars_none hV
      refine ⟨ds, [], p ++ [], [], p, [], hW0, ?_, ?_, ?_, Below.frame hb _, fun h => by cases h⟩
      · have h1 : f.resultTypes.size = 1 := by rw [← Array.length_toList, ht]; rfl
        rw [hres, ht, h1]
        exact trodAll_cons_mk (shut_bool hu _) trodAll_mk0
      · rw [hargs]
        refine trodAll_below hl hb _ _ _ _ (fun t ht => ?_) (fun x hx => hlt x (by simp [hx])) hA
        have := List.all_eq_true.1 hp t ht
        simpa using this
      · rw [hgv, hvars]; rfl
    · cases hr
  · cases hr

/-- A byte. -/
theorem open_u8 {t : TypeId} {v : Value} {d : DataW H} {ps : List MemPlace} {r : Reach} {b0 : Nat} (ht : P.underlying t = some (.int .u8)) (hval : Value.okWide P W r b0 t v)
    (h : DataW.Trod enc P W 0 (fun _ => true) true t v d ps) : ∃ x : UInt8, v = .int .u8 (x.toNat : Int) := by
  obtain ⟨n, rfl, _, _, wn⟩ := open_int ht hval h
  have hb : 0 ≤ n ∧ n ≤ 255 := by simpa [Lit.wf, IntKind.min, IntKind.max, IntKind.signed, IntKind.bits] using wn
  refine ⟨UInt8.ofNat n.toNat, ?_⟩
  rw [UInt8.toNat_ofNat']
  congr 1; omega
theorem wf_u8 {n : Int} (wn : (Lit.int .u8 n).wf = true) : n = ((UInt8.ofNat n.toNat).toNat : Int) := by
  have hb : 0 ≤ n ∧ n ≤ 255 := by simpa [Lit.wf, IntKind.min, IntKind.max, IntKind.signed, IntKind.bits] using wn
  rw [UInt8.toNat_ofNat']; omega
/-- A slice of bytes. -/
theorem open_bytes {t e : TypeId} {v : Value} {d : DataW H} {ps : List MemPlace} {r : Reach} {b0 : Nat} (ht : P.underlying t = some (.slice e)) (he : P.underlying e = some (.int .u8)) (hc : P.cellsOf e = 1)
    (hval : Value.okWide P W r b0 t v) (h : DataW.Trod enc P W 0 (fun _ => true) true t v d ps) (hlt : ∀ x ∈ ps, x.block < W.heap.size)
    (hz : ∀ es sp, d = .slice es sp → es.length + sp.length ≤ 140737488351232) : ∃ l, RdB W W.heap.size v l ∧ l.length ≤ 140737488351232 := by
  obtain ⟨a0, len, cap, rfl⟩ := okWide_slice ht hval
  obtain ⟨fuel, hf⟩ := h
  rcases open_ints ht he hc hf with ⟨hcs, hx⟩ | ⟨a, len', cap', zs, hcs, _, hl, hm, hz', hx, hcell, hwz⟩
  · simp [Value.cells] at hcs
    obtain ⟨rfl, rfl, rfl⟩ := hcs
    exact ⟨[], ⟨none, 0, rfl, by simp, by omega, fun _ => rfl, fun h => by simp at h⟩, by simp⟩
  · simp [Value.cells] at hcs
    obtain ⟨rfl, rfl, rfl⟩ := hcs
    simp only [if_true] at hz'
    have hlen : ((zs.take len).map fun n => UInt8.ofNat n.toNat).length = len := by simp; omega
    have hcap : cap ≤ 140737488351232 := by
      simp only [Prod.mk.injEq] at hx
      have h1 := hz _ _ hx.1
      simp [lits] at h1
      omega
    refine ⟨(zs.take len).map fun n => UInt8.ofNat n.toNat, ⟨some a, cap, by rw [hlen], by rw [hlen]; exact hl, by unfold maxLen at hm; omega, (fun e => by cases e), fun hp => ?_⟩, by rw [hlen]; omega⟩
    rw [hlen] at hp
    have h0 := hcell 0 (by omega)
    have hsp : a.spot = none := by
      cases hs : a.spot with
      | none => rfl
      | some s =>
        exfalso
        simp [Addr.add, World.cell?, hs] at h0
        split at h0 <;> simp at h0
    obtain ⟨b, o, s⟩ := a
    simp only at hsp
    subst hsp
    have hadd : ∀ j, (⟨b, o, none⟩ : Addr).add j = ⟨b, o + j, none⟩ := fun j => by unfold Addr.add; split <;> simp_all
    refine ⟨b, o, rfl, ?_, fun i hi => ?_⟩
    · refine hlt (.cell b o) ?_
      simp only [Prod.mk.injEq] at hx
      rw [hx.2]
      have : 0 < zs.length := by omega
      simp [MemPlace.row]
      exact this
    · rw [hlen] at hi
      have hc1 := hcell i (by omega)
      rw [hadd] at hc1
      rw [hc1]
      have hi2 : i < zs.length := by omega
      have hwi := wf_u8 (hwz zs[i] (List.getElem_mem hi2))
      have e1 : zs.getD i 0 = zs[i] := by simp [hi2]
      have e2 : ((zs.take len).map fun n => UInt8.ofNat n.toNat)[i]?.getD 0 = UInt8.ofNat zs[i].toNat := by simp [hi, hi2]
      rw [e1, e2, ← hwi]
/-- An array of bytes. -/
theorem open_arr {t e : TypeId} {n : Nat} {v : Value} {d : DataW H} {ps : List MemPlace} {r : Reach} {b0 : Nat} (ht : P.underlying t = some (.array n e)) (he : P.underlying e = some (.int .u8)) (hc : P.cellsOf e = 1) (hct : P.cellsOf t = n)
    (hval : Value.okWide P W r b0 t v) (h : DataW.Trod enc P W 0 (fun _ => true) true t v d ps) : ∃ f : Nat → UInt8, v = .agg (bytesV (mk n f)) := by
  obtain ⟨fuel, hf⟩ := h
  obtain ⟨xs, m, rfl, _, hlen, hxs, hel⟩ := DataW.trod_array ht hf
  unfold Value.okWide at hval
  rw [ht] at hval
  obtain ⟨cs, rfl, hsz, _⟩ := hval
  have hsz' : cs.size = n := by rw [hsz, hct]
  have hone : ∀ i, (hi : i < n) → ∃ z, cs[i]? = some (.int .u8 z) ∧ (Lit.int .u8 z).wf = true := fun i hi => by
    have h1 := hel i hi
    rw [hc] at h1
    have hin : i < cs.size := by omega
    have h2 : ((Value.agg cs).cells.toList.drop (i * 1)).take 1 = [cs[i]] := by
      simp only [Value.cells, Nat.mul_one]
      rw [List.drop_eq_getElem_cons (by simpa using hin)]; simp
    rw [h2] at h1
    have h3 : xs[i]? = some xs[i] := by simp [hxs, hi]
    rw [h3] at h1
    obtain ⟨z, hz, _, hw⟩ := DataW.trod_int he h1
    exact ⟨z, by simp [hin]; simpa using hz, hw⟩
  refine ⟨fun i => match cs[i]? with | some (.int _ z) => UInt8.ofNat z.toNat | _ => 0, ?_⟩
  congr 1
  apply Array.ext_getElem?
  intro i
  by_cases hi : i < n
  · obtain ⟨z, hz, hw⟩ := hone i hi
    rw [hz, bytesV_get _ _ (by rw [mk_length]; exact hi), mk_get hi, hz]
    simp only []
    rw [← wf_u8 hw]
  · rw [Array.getElem?_eq_none (by omega), Array.getElem?_eq_none (by rw [bytesV_size, mk_length]; omega)]
end
end Go.Proofs.Ytnbjpilanjngmaa.XS
