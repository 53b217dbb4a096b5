/- Worlds that differ from an older one in one block alone, and have more blocks; slices that read as bytes and do not lie in a given block. -/
import Derived.Test.YtnbjpilanjngmaaSha
namespace Go.Proofs.Ytnbjpilanjngmaa.XS
open Go Go.RowKit

theorem G.refl (w : World) (r : Option Nat) : w.grownBy w r := World.grownBy.refl w r
theorem G.trans {a b c : World} {r : Option Nat} (h : a.grownBy b r) (k : b.grownBy c r) : a.grownBy c r :=
  ⟨k.os.trans h.os, k.tape.trans h.tape, k.output.trans h.output, Nat.le_trans h.size k.size, fun i hi hne => (k.block i (Nat.lt_of_lt_of_le hi h.size) hne).trans (h.block i hi hne)⟩
theorem G.below {a b c : World} {r : Option Nat} {B : Nat} (h : a.grownBy b r) (k : Below B b c) (hB : a.heap.size ≤ B) : a.grownBy c r :=
  ⟨k.os.trans h.os, k.tape.trans h.tape, k.output.trans h.output, Nat.le_trans h.size k.size, fun i hi hne => (k.block i (by omega)).trans (h.block i hi hne)⟩
theorem G.only {a b c : World} {g : Nat} (h : a.grownBy b (some g)) (k : Only g b c) : a.grownBy c (some g) :=
  ⟨k.os.trans h.os, k.tape.trans h.tape, k.output.trans h.output, by rw [k.size]; exact h.size, fun i hi hne => (k.block i (fun e => hne (by rw [e]))).trans (h.block i hi hne)⟩
theorem G.setCell {a b : World} {g : Nat} (h : a.grownBy b (some g)) (k : Nat) (s : Option Nat) (v : Value) : a.grownBy (b.setCell ⟨g, k, s⟩ v) (some g) := G.only h (Only.setCell b g k s v)
theorem G.drew {a b : World} {r : Option Nat} (h : a.grownBy b r) : a.grownBy b.drew r := ⟨h.os, h.tape, h.output, h.size, h.block⟩
theorem G.alloc {a b : World} {r : Option Nat} (h : a.grownBy b r) (o : Obj) : a.grownBy (b.alloc o) r := G.trans h (World.grownBy_alloc b o r)
theorem G.ofBelow {a b : World} {r : Option Nat} {B : Nat} (k : Below B a b) (hB : a.heap.size ≤ B) : a.grownBy b r := G.below (G.refl a r) k hB
/-- In a world that has grown from one that is as an old one below B, and whose block lies from B on. -/
theorem G.toBelow {a b c : World} {g B : Nat} (h : b.grownBy c (some g)) (k : Below B a b) (hB : B ≤ b.heap.size) (hg : B ≤ g) : Below B a c := grown_below h k hB fun q hq => by rw [← Option.some.inj hq]; exact hg

/-- A slice that reads as these bytes, and does not lie in block g. -/
def RdX (w : World) (g : Nat) (v : Value) (l : List UInt8) : Prop :=
  ∃ base cap, v = .slice base l.length cap ∧ l.length ≤ cap ∧ cap ≤ 9223372036854775807 ∧ (base = none → cap = 0) ∧
    (0 < l.length → ∃ b o, base = some ⟨b, o, none⟩ ∧ b ≠ g ∧ b < w.heap.size ∧ ∀ i, i < l.length → w.cell? ⟨b, o + i, none⟩ = some (.int .u8 ((l[i]?.getD 0).toNat : Int)))
theorem RdB.toX {w : World} {B g : Nat} {v : Value} {l : List UInt8} (h : RdB w B v l) (hB : B ≤ g) (hw : B ≤ w.heap.size) : RdX w g v l := by
  obtain ⟨base, cap, hv, h1, h2, hn, h3⟩ := h
  refine ⟨base, cap, hv, h1, h2, hn, fun hp => ?_⟩
  obtain ⟨b, o, hb0, hlt, hc⟩ := h3 hp
  exact ⟨b, o, hb0, by omega, by omega, hc⟩
theorem RdX.grown {w w' : World} {g : Nat} {v : Value} {l : List UInt8} (h : RdX w g v l) (hg : w.grownBy w' (some g)) : RdX w' g v l := by
  obtain ⟨base, cap, hv, h1, h2, hn, h3⟩ := h
  refine ⟨base, cap, hv, h1, h2, hn, fun hp => ?_⟩
  obtain ⟨b, o, hb0, hne, hlt, hc⟩ := h3 hp
  exact ⟨b, o, hb0, hne, Nat.lt_of_lt_of_le hlt hg.size, fun i hi => hg.cell (hc i hi) (fun e => hne (Option.some.inj e))⟩
/-- A block of bytes, taken as a slice. -/
theorem RdX.ofBlk {w : World} {b g : Nat} {E : TypeId} {l : List UInt8} (h : Blk w b (bytesV l) E) (hne : b ≠ g) (hl : l.length ≤ 9223372036854775807) : RdX w g (.slice (some ⟨b, 0, none⟩) l.length l.length) l :=
  ⟨_, l.length, rfl, Nat.le_refl _, hl, (fun e => by cases e), fun _ => ⟨b, 0, rfl, hne, h.lt, fun i hi => by rw [Nat.zero_add]; exact h.byte i hi⟩⟩

/-- What is left of it behind n bytes. -/
theorem RdX.tail {w : World} {g b o L cap n : Nat} {x : List UInt8} (hx : x.length = L) (hn : n ≤ L) (hc : L ≤ cap) (hc2 : cap ≤ 9223372036854775807) (hne : b ≠ g) (hlt : b < w.heap.size)
    (hcell : ∀ i, i < L → w.cell? ⟨b, o + i, none⟩ = some (.int .u8 ((x[i]?.getD 0).toNat : Int))) : RdX w g (.slice (if cap = n then some ⟨b, o, none⟩ else some ⟨b, o + n, none⟩) (L - n) (cap - n)) (x.drop n) := by
  refine ⟨_, cap - n, by rw [List.length_drop, hx], by rw [List.length_drop, hx]; omega, by omega, (fun e => by split at e <;> cases e), fun hp => ?_⟩
  rw [List.length_drop, hx] at hp
  refine ⟨b, o + n, by rw [if_neg (by omega)], hne, hlt, fun i hi => ?_⟩
  rw [List.length_drop, hx] at hi
  rw [List.getElem?_drop, show o + n + i = o + (n + i) by omega]
  exact hcell (n + i) (by omega)
/-! ### A Hash's cells, changed -/
def S5.set (s : S5) (k : Nat) (x : UInt32) : S5 := ⟨if k = 0 then x else s.a, if k = 1 then x else s.b, if k = 2 then x else s.c, if k = 3 then x else s.d, if k = 4 then x else s.e⟩
theorem S5.at_set (s : S5) (k : Nat) (x : UInt32) (hk : k < 5) (i : Nat) (hi : i < 5) : (s.set k x).at i = if i = k then x else s.at i := by
  rcases (by omega : k = 0 ∨ k = 1 ∨ k = 2 ∨ k = 3 ∨ k = 4) with rfl | rfl | rfl | rfl | rfl <;>
  rcases (by omega : i = 0 ∨ i = 1 ∨ i = 2 ∨ i = 3 ∨ i = 4) with rfl | rfl | rfl | rfl | rfl <;> rfl
theorem hV_setS (s : S5) (wt : Nat → UInt8) (many all k : Nat) (hk : k < 5) (x : UInt32) : (hV s wt many all).setIfInBounds k (.int .u32 (x.toNat : Int)) = hV (s.set k x) wt many all := by
  apply Array.ext_getElem?
  intro p
  rw [Array.getElem?_setIfInBounds, hV_size, hV_get, hV_get]
  by_cases h : k = p
  · subst h; rw [if_pos rfl, if_pos (by omega), if_pos hk, S5.at_set s k x hk k hk, if_pos rfl]
  · rw [if_neg h]
    by_cases h5 : p < 5
    · rw [if_pos h5, if_pos h5, S5.at_set s k x hk p h5, if_neg (Ne.symm h)]
    · rw [if_neg h5, if_neg h5]
theorem hV_setMany (s : S5) (wt : Nat → UInt8) (many all m : Nat) : (hV s wt many all).setIfInBounds 69 (.int .i64 (m : Int)) = hV s wt m all := by
  apply Array.ext_getElem?
  intro p
  rw [Array.getElem?_setIfInBounds, hV_size, hV_get, hV_get]
  by_cases h : 69 = p
  · subst h; simp
  · rw [if_neg h]
    simp only [show ¬ p = 69 from Ne.symm h, if_false]
theorem hV_setAll (s : S5) (wt : Nat → UInt8) (many all m : Nat) : (hV s wt many all).setIfInBounds 70 (.int .u64 (m : Int)) = hV s wt many m := by
  apply Array.ext_getElem?
  intro p
  rw [Array.getElem?_setIfInBounds, hV_size, hV_get, hV_get]
  by_cases h : 70 = p
  · subst h; simp
  · rw [if_neg h]
    simp only [show ¬ p = 70 from Ne.symm h, if_false]
/-- The first k words with what was added. -/
def mixS (s r : S5) (k : Nat) : S5 := ⟨if 0 < k then aw s.a r.a else s.a, if 1 < k then aw s.b r.b else s.b, if 2 < k then aw s.c r.c else s.c, if 3 < k then aw s.d r.d else s.d, if 4 < k then aw s.e r.e else s.e⟩
theorem mixS_zero (s r : S5) : mixS s r 0 = s := rfl
theorem mixS_five (wt : Nat → UInt8) (s : S5) : mixS s (rnds wt s 80) 5 = cmpr wt s := rfl
theorem mixS_at (s r : S5) (k : Nat) (hk : k < 5) : (mixS s r k).at k = s.at k := by
  rcases (by omega : k = 0 ∨ k = 1 ∨ k = 2 ∨ k = 3 ∨ k = 4) with rfl | rfl | rfl | rfl | rfl <;> rfl
theorem mixS_step (s r : S5) (k : Nat) (hk : k < 5) : (mixS s r k).set k (aw (s.at k) (r.at k)) = mixS s r (k + 1) := by
  rcases (by omega : k = 0 ∨ k = 1 ∨ k = 2 ∨ k = 3 ∨ k = 4) with rfl | rfl | rfl | rfl | rfl <;> rfl

section
variable {P : Program} {ops : Array Oper} {rest : List Oper} {o : Oper} {a : Act} {w : World} {Q : Exit → Act → World → Prop}
/-- Bytes copied into a block out of whatever slice they are read from. -/
theorem wpList_copyX (hgd : o.guard = none) (d s : Operand) (dT sT : TypeId) (ho : o.op = .call { callee := .builtin .copy, args := #[d, s], argTypes := #[dT, sT] }) (elem : TypeId)
    (hu : P.underlying dT = some (.slice elem)) (hsz : (P.info? elem).map (·.size) = some 1) (g off dLen dCap : Nat)
    (hd : a.eval d = .slice (some ⟨g, off, none⟩) dLen dCap) (vs : Value) (x : List UInt8) (hs : a.eval s = vs) (hr : RdX w g vs x)
    (cur : Array Value) (E : TypeId) (hb : Blk w g cur E) (m : Nat) (hm : m = Nat.min x.length dLen) (hfit : off + m ≤ cur.size)
    (cur' : Array Value) (hcur : ∀ p : Nat, cur'[p]? = if off ≤ p ∧ p < off + m then some (.int .u8 ((byteAt x (p - off)).toNat : Int)) else cur[p]?)
    (h : ∀ w', Only g w w' → Blk w' g cur' E → wpList P ops Q rest (a.put o.dst (goInt m)) w') :
    wpList P ops Q (o :: rest) a w := by
  obtain ⟨base, cap, rfl, h1, h2, hn, h3⟩ := hr
  by_cases hp : 0 < x.length
  · obtain ⟨b, o', rfl, hne, hlt, hcell⟩ := h3 hp
    refine wpList_copyB hgd d s dT sT ho elem hu hsz g off dLen dCap b o' x.length cap hd hs cur E hb m hm (byteAt x) (fun j hj => hcell j ?_) hfit cur' hcur h
    have : Nat.min x.length dLen ≤ x.length := Nat.min_le_left _ _
    omega
  · have h0 : x.length = 0 := by omega
    have hm0 : m = 0 := by rw [hm, h0]; exact Nat.zero_min _
    have ec : cur' = cur := by
      apply Array.ext_getElem?
      intro p
      rw [hcur p, if_neg (by omega)]
    subst ec hm0
    rw [h0] at hs
    exact wpList_copy_nothing hgd d s dT sT ho elem hu hsz _ _ _ _ _ _ hd hs (Nat.zero_min _) (h w ⟨rfl, rfl, rfl, rfl, fun _ _ => rfl⟩ hb)
theorem aggT_loads {ty : TypeId} {cs : Array Value} {g : Nat} {t : TypeId} (hb : Blk w g cs t) (hagg : aggT P ty = true) (hi : (P.info? ty).map (·.size) = some cs.size) :
    (loadVar ty (⟨g, 0, none⟩ : Addr)).run P w = .ok (.agg cs) w := by
  rcases aggT_out hagg with ⟨f, hu⟩ | ⟨m, e, hu⟩
  · exact run_loadVar_row w g t ty cs (0, 0) _ hb hu rfl hi
  · exact run_loadVar_row w g t ty cs (0, 0) _ hb hu rfl hi
/-- The end of a function whose two results are rows. -/
theorem ret_row2 {fn : Func} {R : Ending → World → Prop} {p1 p2 : Tmp} {t1 t2 : TypeId} (hr : fn.results = #[.cell p1 t1, .cell p2 t2]) (g1 g2 : Nat) (c1 c2 : Array Value) (E1 E2 : TypeId)
    (hp1 : a.tmps.getD p1 undef = .pointer (some ⟨g1, 0, none⟩)) (hp2 : a.tmps.getD p2 undef = .pointer (some ⟨g2, 0, none⟩)) (hb1 : Blk w g1 c1 E1) (hb2 : Blk w g2 c2 E2)
    (h1 : aggT P t1 = true) (h2 : aggT P t2 = true) (n1 n2 : Nat) (hi1 : (P.info? t1).map (·.size) = some n1) (hi2 : (P.info? t2).map (·.size) = some n2) (hn1 : c1.size = n1) (hn2 : c2.size = n2)
    (hdef : a.defers = []) (hR : R (.returned (.tuple #[.agg c1, .agg c2])) w) : bodyPost P fn R .ret a w := by
  refine bodyPost_ret ?_ hdef hR
  have e1 : a.tmps[p1]?.getD undef = .pointer (some ⟨g1, 0, none⟩) := by simpa using hp1
  have e2 : a.tmps[p2]?.getD undef = .pointer (some ⟨g2, 0, none⟩) := by simpa using hp2
  have l1 := aggT_loads (P := P) (ty := t1) hb1 h1 (by rw [hi1, hn1])
  have l2 := aggT_loads (P := P) (ty := t2) hb2 h2 (by rw [hi2, hn2])
  simp [results, hr, e1, e2, asAddr, l1, l2]
end
end Go.Proofs.Ytnbjpilanjngmaa.XS
