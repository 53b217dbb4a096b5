/- Slices of slices of bytes, all of the call's own. -/
import Derived.Test.YtnbjpilanjngmaaLib
namespace Go.Proofs.Ytnbjpilanjngmaa.XS
open Go Go.RowKit

theorem mk_snoc (k : Nat) (f : Nat → UInt8) : mk (k + 1) f = mk k f ++ [f k] := by simp [mk, List.range_succ]
theorem mk_append (a b : Nat) (f : Nat → UInt8) : mk (a + b) f = mk a f ++ mk b fun j => f (a + j) := by
  simp [mk, List.range_add, Function.comp_def]
theorem OwnB.mono {w : World} {base base' : Nat} {E : TypeId} {v : Value} {l : List UInt8} (h : OwnB w base E v l) (hb : base' ≤ base) : OwnB w base' E v l := by
  obtain ⟨h1, h2⟩ := h
  refine ⟨h1, h2.imp id ?_⟩
  rintro ⟨g, cap, cur, rfl, hg, r⟩
  exact ⟨g, cap, cur, rfl, by omega, r⟩
/-- The type of what lies in its own block. -/
theorem OwnB.elem {w : World} {base : Nat} {E : TypeId} {v : Value} {l : List UInt8} (h : OwnB w base E v l) : ∀ k, v.ownBlock = some k → ∃ cs, w.heap[k]? = some (.cells cs E (0, 0)) := by
  intro k hk
  rcases h.2 with ⟨rfl, _⟩ | ⟨g, cap, cur, rfl, _, hh, _⟩
  · cases hk
  · simp [Value.ownBlock] at hk; subst hk; exact ⟨cur, hh⟩
theorem OwnB.one {w : World} {base : Nat} {E : TypeId} {v : Value} {l : List UInt8} (h : OwnB w base E v l) : v.oneCell' = true := by
  rcases h.2 with ⟨rfl, _⟩ | ⟨g, cap, cur, rfl, _⟩ <;> rfl
theorem OwnB.grown {w w' : World} {base : Nat} {E : TypeId} {v : Value} {l : List UInt8} {row : Option Nat} (h : OwnB w base E v l) (hg : w.grownBy w' row) (hne : ∀ k, v.ownBlock = some k → row ≠ some k) : OwnB w' base E v l :=
  h.same fun k hk => hg.block k (h.block k hk).2 fun e => hne k hk e.symm
/-- A literal of so many bytes. -/
theorem OwnB.made (w : World) (base : Nat) (E : TypeId) (l : List UInt8) (hb : base ≤ w.heap.size) (hl : l.length ≤ 140737488355328) : OwnB (w.alloc (.cells (bytesV l) E)) base E (.slice (some ⟨w.heap.size, 0, none⟩) l.length l.length) l :=
  ⟨by simp, .inr ⟨w.heap.size, l.length, bytesV l, rfl, hb, Blk.new w _ E, Nat.le_refl _, by unfold maxLen; omega, by rw [bytesV_size, Nat.mul_one], by
    rw [Nat.mul_one, List.take_of_length_le (by simp [bytesV])]; simp [bytesV, u8V]⟩⟩
/-- A block of bytes taken as a slice. -/
theorem OwnB.ofBlk {w : World} {b base : Nat} {E : TypeId} {l : List UInt8} (h : Blk w b (bytesV l) E) (hb : base ≤ b) (hl : l.length ≤ 140737488355328) : OwnB w base E (.slice (some ⟨b, 0, none⟩) l.length l.length) l :=
  ⟨by simp, .inr ⟨b, l.length, bytesV l, rfl, hb, h, Nat.le_refl _, by unfold maxLen; omega, by rw [bytesV_size, Nat.mul_one], by
    rw [Nat.mul_one, List.take_of_length_le (by simp [bytesV])]; simp [bytesV, u8V]⟩⟩

/-- A slice of n slices of bytes, all of the call's own: row i reads as f i. -/
def RowsB (w : World) (base : Nat) (EO EI : TypeId) (v : Value) (n : Nat) (f : Nat → List UInt8) : Prop :=
  ∃ vs : List Value, w.ownsRow base EO 1 v n vs ∧ ∀ i, i < n → ∃ u, vs[i]? = some u ∧ OwnB w base EI u (f i)
theorem RowsB.nil (w : World) (base : Nat) (EO EI : TypeId) (f : Nat → List UInt8) : RowsB w base EO EI (.slice none 0 0) 0 f :=
  ⟨[], World.ownsRow_nil w base EO 1, fun i hi => by omega⟩
theorem RowsB.block {w : World} {base : Nat} {EO EI : TypeId} {v : Value} {n : Nat} {f : Nat → List UInt8} (h : RowsB w base EO EI v n f) : ∀ k, v.ownBlock = some k → base ≤ k ∧ k < w.heap.size := by
  obtain ⟨vs, h1, _⟩ := h; exact World.ownsRow.lt h1
theorem RowsB.below {w w' : World} {base B : Nat} {EO EI : TypeId} {v : Value} {n : Nat} {f : Nat → List UInt8} (h : RowsB w base EO EI v n f) (hb : Below B w w') (hB : w.heap.size ≤ B) : RowsB w' base EO EI v n f := by
  have hbk := h.block
  obtain ⟨vs, h1, h2⟩ := h
  refine ⟨vs, ?_, fun i hi => ?_⟩
  · obtain ⟨e, h1⟩ := h1
    refine ⟨e, h1.imp id ?_⟩
    rintro ⟨g, cap, cur, rfl, hg, hh, r⟩
    exact ⟨g, cap, cur, rfl, hg, by rw [hb.block g (by have := (hbk g rfl).2; omega)]; exact hh, r⟩
  · obtain ⟨u, hu, ho⟩ := h2 i hi
    exact ⟨u, hu, ho.below hb hB⟩
theorem RowsB.congr {w : World} {base : Nat} {EO EI : TypeId} {v : Value} {n : Nat} {f g : Nat → List UInt8} (h : RowsB w base EO EI v n f) (e : ∀ i, i < n → f i = g i) : RowsB w base EO EI v n g := by
  obtain ⟨vs, h1, h2⟩ := h
  exact ⟨vs, h1, fun i hi => by rw [← e i hi]; exact h2 i hi⟩
theorem RowsB.mono {w : World} {base base' : Nat} {EO EI : TypeId} {v : Value} {n : Nat} {f : Nat → List UInt8} (h : RowsB w base EO EI v n f) (hb : base' ≤ base) : RowsB w base' EO EI v n f := by
  obtain ⟨vs, ⟨h1, h2⟩, h3⟩ := h
  refine ⟨vs, ⟨h1, h2.imp id ?_⟩, fun i hi => ?_⟩
  · rintro ⟨g, cap, cur, rfl, hg, r⟩
    exact ⟨g, cap, cur, rfl, by omega, r⟩
  · obtain ⟨u, hu, ho⟩ := h3 i hi
    exact ⟨u, hu, ho.mono hb⟩
/-- Row i: where it lies, and that it reads as its bytes. -/
theorem RowsB.at {w : World} {base : Nat} {EO EI : TypeId} {v : Value} {n : Nat} {f : Nat → List UInt8} (h : RowsB w base EO EI v n f) {i : Nat} (hi : i < n) :
    ∃ g cap, v = .slice (some ⟨g, 0, none⟩) n cap ∧ base ≤ g ∧ g < w.heap.size ∧ n ≤ cap ∧ cap ≤ 9223372036854775807 := by
  obtain ⟨vs, ⟨_, h | ⟨g, cap, cur, rfl, hg, hh, hn, hm, hs, ht⟩⟩, h2⟩ := h
  · omega
  · refine ⟨g, cap, rfl, hg, ?_, hn, by unfold maxLen at hm; omega⟩
    rcases Nat.lt_or_ge g w.heap.size with h' | h'
    · exact h'
    · rw [Array.getElem?_eq_none h'] at hh; cases hh
theorem RowsB.cell {w : World} {base g cap : Nat} {EO EI : TypeId} {n : Nat} {f : Nat → List UInt8} (h : RowsB w base EO EI (.slice (some ⟨g, 0, none⟩) n cap) n f) {i : Nat} (hi : i < n) :
    ∃ u, w.cell? ⟨g, i, none⟩ = some u ∧ OwnB w base EI u (f i) := by
  obtain ⟨vs, h1, h2⟩ := h
  obtain ⟨u, hu, ho⟩ := h2 i hi
  exact ⟨u, by rw [World.ownsRow.cellAt h1 i (by omega)]; exact hu, ho⟩

/-- A row of four bytes made as a literal, and the row of one slice that is appended. -/
theorem Lit4 {wr w0 : World} {base : Nat} {EO EI : TypeId} {v : Value} {n : Nat} {f : Nat → List UInt8} (h : RowsB wr base EO EI v n f) (hb : base ≤ wr.heap.size) (g : Nat → UInt8) (hw : w0 = wr ∨ w0 = wr.drew) :
    let W := (w0.alloc (.cells #[.int .u8 ((g 0).toNat : Int), .int .u8 ((g 1).toNat : Int), .int .u8 ((g 2).toNat : Int), .int .u8 ((g 3).toNat : Int)] EI)).alloc (.cells #[.slice (some ⟨w0.heap.size, 0, none⟩) 4 4] EO)
    RowsB W base EO EI v n f ∧ W.cell? ⟨w0.heap.size + 1, 0, none⟩ = some (.slice (some ⟨w0.heap.size, 0, none⟩) 4 4) ∧ OwnB W base EI (.slice (some ⟨w0.heap.size, 0, none⟩) 4 4) (mk 4 g) ∧ Below wr.heap.size wr W := by
  have h0 : Below wr.heap.size wr w0 ∧ w0.heap.size = wr.heap.size := by
    rcases hw with rfl | rfl
    · exact ⟨Below.refl _ _, rfl⟩
    · exact ⟨(Below.refl _ _).drew, rfl⟩
  have hB := (h0.1.alloc (by rw [h0.2]; exact Nat.le_refl _) (.cells #[.int .u8 ((g 0).toNat : Int), .int .u8 ((g 1).toNat : Int), .int .u8 ((g 2).toNat : Int), .int .u8 ((g 3).toNat : Int)] EI)).alloc (by simp [h0.2]) (.cells #[.slice (some ⟨w0.heap.size, 0, none⟩) 4 4] EO)
  exact ⟨h.below hB (Nat.le_refl _), (Blk.new' (by simp) _ _).cell rfl, (OwnB.made w0 base EI (mk 4 g) (by rw [h0.2]; exact hb) (by rw [mk_length]; omega)).alloc _, hB⟩
section
variable {P : Program} {ops : Array Oper} {rest : List Oper} {o : Oper} {a : Act} {w : World} {Q : Exit → Act → World → Prop}
/-- A row appended. -/
theorem wpList_appendRow (hgd : o.guard = none) (s x : Operand) (t : TypeId) (ho : o.op = .call { callee := .builtin .append, args := #[s, x], argTypes := #[t, t] })
    (base : Nat) (EO EI : TypeId) (hne : EO ≠ EI) (ht : P.underlying t = some (.slice EO)) (by8 : Nat) (hi : (P.info? EO).map (fun i => (i.zero, i.size, i.bytes)) = some (some (.slice none 0 0), 1, by8)) (hby : 0 < by8 ∧ by8 ≤ 24)
    (v : Value) (n : Nat) (f : Nat → List UInt8) (hs : a.eval s = v) (hown : RowsB w base EO EI v n f) (sb c : Nat) (hx : a.eval x = .slice (some ⟨sb, 0, none⟩) 1 c) (u : Value)
    (hc : w.cell? ⟨sb, 0, none⟩ = some u) (hu : OwnB w base EI u (f n)) (h47 : n ≤ 1000000000000) (hbase : base ≤ w.heap.size)
    (h : ∀ v' w', RowsB w' base EO EI v' (n + 1) f → w.grownBy w' v.ownBlock → wpList P ops Q rest (a.put o.dst v') w') : wpList P ops Q (o :: rest) a w := by
  have hown' := hown
  obtain ⟨vs, h1, h2⟩ := hown
  cases hq : P.info? EO with
  | none => simp [hq] at hi
  | some i =>
    simp only [hq, Option.map_some, Option.some.injEq, Prod.mk.injEq] at hi
    have hkeep : ∀ (u' : Value) (l' : List UInt8), OwnB w base EI u' l' → ∀ k, u'.ownBlock = some k → v.ownBlock ≠ some k := fun u' l' hu' k hk e => by
      obtain ⟨cs, hcs⟩ := hu'.elem k hk
      rcases h1.2 with ⟨rfl, _⟩ | ⟨g, cap, cur, rfl, _, hh, _⟩
      · cases e
      · simp [Value.ownBlock] at e
        subst e
        rw [hh] at hcs
        simp at hcs
        exact hne hcs.2
    refine wpList_append_own w hgd s x t ho base EO i (.slice none 0 0) 1 by8 ht hq hi.1 hi.2.1 hi.2.2 rfl (by decide) v n vs hs h1 ⟨sb, 0, none⟩ 1 c [u] hx (by simp) (fun j z hj => ?_) (fun z hz => ?_) (by unfold maxLen; omega) ?_ hbase (fun v' w' h3 h4 _ => h v' w' ?_ h4)
    · cases j with
      | zero => simp at hj; subst hj; exact hc
      | succ j => simp at hj
    · simp at hz; subst hz; exact hu.one
    · obtain ⟨hb1, hb2⟩ := hby
      have : (n + 1) * by8 ≤ (n + 1) * 24 := Nat.mul_le_mul_left _ hb2
      omega
    · refine ⟨vs ++ [u], h3, fun j hj => ?_⟩
      have hlen : vs.length = n := by rw [h1.1]; omega
      by_cases hjn : j < n
      · obtain ⟨u', hu1, hu2⟩ := h2 j hjn
        exact ⟨u', by rw [List.getElem?_append_left (by omega)]; exact hu1, hu2.grown h4 (hkeep _ _ hu2)⟩
      · obtain rfl : j = n := by omega
        exact ⟨u, by rw [List.getElem?_append_right (by omega)]; simp [hlen], hu.grown h4 (hkeep _ _ hu)⟩
end
end Go.Proofs.Ytnbjpilanjngmaa.XS
