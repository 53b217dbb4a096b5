/- Slices of words of 32 bits, of the call's own. -/
import Derived.Test.YtnbjpilanjngmaaLib3
namespace Go.Proofs.Ytnbjpilanjngmaa.XS
open Go Go.RowKit

/-- A slice of the call's own of n words. -/
def OwnW (w : World) (base : Nat) (E : TypeId) (v : Value) (n : Nat) (f : Nat → UInt32) : Prop := w.ownsRow base E 1 v n ((List.range n).map fun i => u32V (f i))
theorem OwnW.nil (w : World) (base : Nat) (E : TypeId) (f : Nat → UInt32) : OwnW w base E (.slice none 0 0) 0 f := World.ownsRow_nil w base E 1
theorem OwnW.alloc {w : World} {base : Nat} {E : TypeId} {v : Value} {n : Nat} {f : Nat → UInt32} (h : OwnW w base E v n f) (o : Obj) : OwnW (w.alloc o) base E v n f := World.ownsRow.alloc h o
theorem OwnW.drew {w : World} {base : Nat} {E : TypeId} {v : Value} {n : Nat} {f : Nat → UInt32} (h : OwnW w base E v n f) : OwnW w.drew base E v n f := h
theorem OwnW.block {w : World} {base : Nat} {E : TypeId} {v : Value} {n : Nat} {f : Nat → UInt32} (h : OwnW w base E v n f) : ∀ k, v.ownBlock = some k → base ≤ k ∧ k < w.heap.size := World.ownsRow.lt h
theorem OwnW.same {w w' : World} {base : Nat} {E : TypeId} {v : Value} {n : Nat} {f : Nat → UInt32} (h : OwnW w base E v n f) (hb : ∀ k, v.ownBlock = some k → w'.heap[k]? = w.heap[k]?) : OwnW w' base E v n f := by
  obtain ⟨h1, h2⟩ := h
  refine ⟨h1, h2.imp id ?_⟩
  rintro ⟨g, cap, cur, rfl, hg, hh, r⟩
  exact ⟨g, cap, cur, rfl, hg, by rw [hb g rfl]; exact hh, r⟩
theorem OwnW.below {w w' : World} {base B : Nat} {E : TypeId} {v : Value} {n : Nat} {f : Nat → UInt32} (h : OwnW w base E v n f) (hb : Below B w w') (hB : w.heap.size ≤ B) : OwnW w' base E v n f :=
  h.same fun k hk => hb.block k (by have := (h.block k hk).2; omega)
theorem OwnW.form {w : World} {base : Nat} {E : TypeId} {v : Value} {n : Nat} {f : Nat → UInt32} (h : OwnW w base E v n f) (hl : 0 < n) :
    ∃ g cap, v = .slice (some ⟨g, 0, none⟩) n cap ∧ base ≤ g ∧ g < w.heap.size ∧ n ≤ cap ∧ cap ≤ 9223372036854775807 := by
  obtain ⟨_, h | ⟨g, cap, cur, rfl, hg, hh, hn, hm, hs, ht⟩⟩ := h
  · omega
  · refine ⟨g, cap, rfl, hg, ?_, hn, by unfold maxLen at hm; omega⟩
    rcases Nat.lt_or_ge g w.heap.size with h' | h'
    · exact h'
    · rw [Array.getElem?_eq_none h'] at hh; cases hh
theorem OwnW.cell {w : World} {base g cap n : Nat} {E : TypeId} {f : Nat → UInt32} (h : OwnW w base E (.slice (some ⟨g, 0, none⟩) n cap) n f) {j : Nat} (hj : j < n) :
    w.cell? ⟨g, j, none⟩ = some (.int .u32 ((f j).toNat : Int)) := by
  rw [World.ownsRow.cellAt h j (by omega)]; simp [u32V, hj]
theorem range_snoc (n : Nat) (f : Nat → UInt32) : ((List.range (n + 1)).map fun i => u32V (f i)) = ((List.range n).map fun i => u32V (f i)) ++ [u32V (f n)] := by simp [List.range_succ]
theorem OwnB.shape {w : World} {base : Nat} {E : TypeId} {v : Value} {l : List UInt8} (h : OwnB w base E v l) : ∃ b c, v = .slice b l.length c := by
  obtain ⟨_, h | ⟨g, cap, cur, rfl, _⟩⟩ := h
  · obtain ⟨rfl, h0⟩ := h; exact ⟨none, 0, by rw [h0]⟩
  · exact ⟨_, _, rfl⟩
section
variable {P : Program} {ops : Array Oper} {rest : List Oper} {o : Oper} {a : Act} {w : World} {Q : Exit → Act → World → Prop}
/-- A word appended. -/
theorem wpList_appendW (hgd : o.guard = none) (s x : Operand) (t : TypeId) (ho : o.op = .call { callee := .builtin .append, args := #[s, x], argTypes := #[t, t] })
    (base : Nat) (E : TypeId) (ht : P.underlying t = some (.slice E)) (hi : (P.info? E).map (fun i => (i.zero, i.size, i.bytes)) = some (some (.int .u32 0), 1, 4))
    (v : Value) (n : Nat) (f : Nat → UInt32) (hs : a.eval s = v) (hown : OwnW w base E v n f) (sb c : Nat) (hx : a.eval x = .slice (some ⟨sb, 0, none⟩) 1 c)
    (hc : w.cell? ⟨sb, 0, none⟩ = some (.int .u32 ((f n).toNat : Int))) (h47 : n ≤ 1000000000000) (hbase : base ≤ w.heap.size) {a0 : World} (hbel : Below base a0 w)
    (h : ∀ v' w', OwnW w' base E v' (n + 1) f → Below base a0 w' → wpList P ops Q rest (a.put o.dst v') w') : wpList P ops Q (o :: rest) a w := by
  cases hq : P.info? E with
  | none => simp [hq] at hi
  | some i =>
    simp only [hq, Option.map_some, Option.some.injEq, Prod.mk.injEq] at hi
    refine wpList_append_own w hgd s x t ho base E i (.int .u32 0) 1 4 ht hq hi.1 hi.2.1 hi.2.2 rfl (by decide) v n _ hs hown ⟨sb, 0, none⟩ 1 c [u32V (f n)] hx (by simp) (fun j z hj => ?_) (fun z hz => ?_) (by unfold maxLen; omega) (by omega) hbase (fun v' w' h3 h4 _ => h v' w' ?_ (grown_below h4 hbel hbase fun k hk => (hown.block k hk).1))
    · cases j with
      | zero => simp at hj; subst hj; exact hc
      | succ j => simp at hj
    · simp at hz; subst hz; rfl
    · unfold OwnW; rw [range_snoc]; exact h3
/-- A byte appended; the slice told. -/
theorem wpList_append1 (hgd : o.guard = none) (s x : Operand) (t : TypeId) (ho : o.op = .call { callee := .builtin .append, args := #[s, x], argTypes := #[t, t] })
    (base : Nat) (E : TypeId) (ht : P.underlying t = some (.slice E)) (hi : (P.info? E).map (fun i => (i.zero, i.size, i.bytes)) = some (some (.int .u8 0), 1, 1))
    (v : Value) (l : List UInt8) (hs : a.eval s = v) (hown : OwnB w base E v l) (sb c : Nat) (hx : a.eval x = .slice (some ⟨sb, 0, none⟩) 1 c) (b : UInt8)
    (hc : w.cell? ⟨sb, 0, none⟩ = some (.int .u8 (b.toNat : Int))) (n : Nat) (hn : l.length = n) (h47 : n ≤ 1000000000) (hbase : base ≤ w.heap.size) {a0 : World} (hbel : Below base a0 w)
    (h : ∀ g' c' w', OwnB w' base E (.slice (some ⟨g', 0, none⟩) (n + 1) c') (l ++ [b]) → base ≤ g' → g' < w'.heap.size → n + 1 ≤ c' → c' ≤ 9223372036854775807 → Below base a0 w' →
      wpList P ops Q rest (a.put o.dst (.slice (some ⟨g', 0, none⟩) (n + 1) c')) w') : wpList P ops Q (o :: rest) a w := by
  refine wpList_appendB hgd s x t ho base E ht hi v l hs hown sb 0 1 c hx [b] rfl (fun j hj => ?_) (by omega) hbase fun v' w' h1 h2 => ?_
  · obtain rfl : j = 0 := by omega
    exact hc
  · obtain ⟨g', c', rfl, a1, a2, a3, a4⟩ := h1.form (by simp)
    have e : (l ++ [b]).length = n + 1 := by simp [hn]
    rw [e] at h1 a3 ⊢
    exact h g' c' w' h1 a1 a2 a3 a4 (grown_below h2 hbel hbase fun k hk => (hown.block k hk).1)
/-- Bytes appended out of whatever slice; the slice told, and the world. -/
theorem wpList_appendS (hgd : o.guard = none) (s x : Operand) (t : TypeId) (ho : o.op = .call { callee := .builtin .append, args := #[s, x], argTypes := #[t, t] })
    (base : Nat) (E : TypeId) (ht : P.underlying t = some (.slice E)) (hi : (P.info? E).map (fun i => (i.zero, i.size, i.bytes)) = some (some (.int .u8 0), 1, 1))
    (v : Value) (l : List UInt8) (hs : a.eval s = v) (hown : OwnB w base E v l) (vx : Value) (B : Nat) (hx : a.eval x = vx) (news : List UInt8) (hr : RdB w B vx news)
    (n : Nat) (hn : l.length + news.length = n) (h47 : n ≤ 1000000000) (hbase : base ≤ w.heap.size) {a0 : World} (hbel : Below base a0 w)
    (h : ∀ b' c' w', OwnB w' base E (.slice b' n c') (l ++ news) → Below base a0 w' → wpList P ops Q rest (a.put o.dst (.slice b' n c')) w') : wpList P ops Q (o :: rest) a w := by
  refine wpList_appendR hgd s x t ho base E ht hi v l hs hown vx B hx news hr (by omega) hbase fun v' w' h1 h2 => ?_
  obtain ⟨b', c', rfl⟩ := h1.shape
  have e : (l ++ news).length = n := by rw [List.length_append]; exact hn
  rw [e] at h1 ⊢
  exact h b' c' w' h1 (grown_below h2 hbel hbase fun k hk => (hown.block k hk).1)
end
end Go.Proofs.Ytnbjpilanjngmaa.XS
