/- Laws of the walk: blocks of memory, rows of bytes, slices of the call. -/
import Derived.WalkKit
import Derived.WalkSpells
import Derived.Lib.Hide
import Derived.Laws.CopyOwn
import Derived.Laws.AppendOwnNone
import Derived.Deep.DeepCutAuto
import Derived.Deep.LoopGhost
import Derived.Deep.CutBlock
import Derived.Test.YtnbjpilanjngmaaReg
namespace Go.Proofs.Ytnbjpilanjngmaa.XS
open Go Go.RowKit

/-- Bytes in memory. -/
def bytesV (l : List UInt8) : Array Value := (l.map fun x => Value.int .u8 (x.toNat : Int)).toArray
theorem bytesV_size (l : List UInt8) : (bytesV l).size = l.length := by simp [bytesV]
theorem bytesV_get (l : List UInt8) (k : Nat) (hk : k < l.length) : (bytesV l)[k]? = some (.int .u8 ((l[k]?.getD 0).toNat : Int)) := by
  simp [bytesV, hk]
theorem bytesV_set (l : List UInt8) (k : Nat) (x : UInt8) : (bytesV l).setIfInBounds k (.int .u8 (x.toNat : Int)) = bytesV (l.set k x) := by
  simp [bytesV, List.map_set]
theorem bytesV_one (l : List UInt8) : (bytesV l).all (·.oneCell') = true := by
  simp [bytesV, Value.oneCell']

def zeros (n : Nat) : List UInt8 := List.replicate n 0
theorem zeros_length (n : Nat) : (zeros n).length = n := List.length_replicate

/-- A block that holds these cells, none of them frozen. -/
def Blk (w : World) (b : Nat) (cs : Array Value) (E : TypeId) : Prop := w.heap[b]? = some (.cells cs E (0, 0))
theorem Blk.lt {w : World} {b : Nat} {cs : Array Value} {E : TypeId} (h : Blk w b cs E) : b < w.heap.size := by
  unfold Blk at h
  rcases Nat.lt_or_ge b w.heap.size with h' | h'
  · exact h'
  · rw [Array.getElem?_eq_none h'] at h; cases h
theorem Blk.heap {w : World} {b : Nat} {cs : Array Value} {E : TypeId} (h : Blk w b cs E) : w.heap[b]? = some (.cells cs E (0, 0)) := h
theorem Blk.cell {w : World} {b : Nat} {cs : Array Value} {E : TypeId} (h : Blk w b cs E) {k : Nat} {v : Value} (hk : cs[k]? = some v) : w.cell? ⟨b, k, none⟩ = some v := by
  unfold Blk at h; simp [World.cell?, h, hk]
theorem Blk.free {w : World} {b : Nat} {cs : Array Value} {E : TypeId} (h : Blk w b cs E) (k : Nat) : w.frozen? ⟨b, k, none⟩ = false := by
  unfold Blk at h; simp [World.frozen?, h]
theorem Blk.byte {w : World} {b : Nat} {l : List UInt8} {E : TypeId} (h : Blk w b (bytesV l) E) (k : Nat) (hk : k < l.length) : w.cell? ⟨b, k, none⟩ = some (.int .u8 ((l[k]?.getD 0).toNat : Int)) :=
  h.cell (bytesV_get l k hk)
theorem Blk.drew {w : World} {b : Nat} {cs : Array Value} {E : TypeId} (h : Blk w b cs E) : Blk w.drew b cs E := h
theorem Blk.set {w : World} {b : Nat} {cs : Array Value} {E : TypeId} (h : Blk w b cs E) (k : Nat) (v : Value) : Blk (w.setCell ⟨b, k, none⟩ v) b (cs.setIfInBounds k v) E := by
  unfold Blk at *; simp [World.setCell, Array.getElem?_modify, h]
theorem Blk.set_ne {w : World} {b : Nat} {cs : Array Value} {E : TypeId} (h : Blk w b cs E) {b' : Nat} (hb : b ≠ b') (k : Nat) (s : Option Nat) (v : Value) : Blk (w.setCell ⟨b', k, s⟩ v) b cs E := by
  unfold Blk at *; rw [Below.heap_setCell _ _ _ _ hb]; exact h
theorem Blk.setByte {w : World} {b : Nat} {l : List UInt8} {E : TypeId} (h : Blk w b (bytesV l) E) (k : Nat) (x : UInt8) : Blk (w.setCell ⟨b, k, none⟩ (.int .u8 (x.toNat : Int))) b (bytesV (l.set k x)) E := by
  rw [← bytesV_set]; exact h.set k _
theorem Blk.alloc {w : World} {b : Nat} {cs : Array Value} {E : TypeId} (h : Blk w b cs E) (o : Obj) : Blk (w.alloc o) b cs E := by
  unfold Blk at *; rw [Below.heap_alloc _ _ _ (Blk.lt h)]; exact h
theorem Blk.new (w : World) (cs : Array Value) (E : TypeId) : Blk (w.alloc (.cells cs E)) w.heap.size cs E := by
  unfold Blk; show (w.heap.push _)[w.heap.size]? = _; simp
theorem Blk.new' {w : World} {b : Nat} (hb : b = w.heap.size) (cs : Array Value) (E : TypeId) : Blk (w.alloc (.cells cs E)) b cs E := by
  subst hb; exact Blk.new w cs E
theorem Blk.below {w w' : World} {b B : Nat} {cs : Array Value} {E : TypeId} (h : Blk w b cs E) (hb : Below B w w') (hlt : b < B) : Blk w' b cs E := by
  unfold Blk at *; rw [hb.block _ hlt]; exact h
theorem Blk.row {w : World} {b : Nat} {cs : Array Value} {E : TypeId} (h : Blk w b cs E) (cs' : Array Value) : Blk (w.setRow b cs') b cs' E := setRow_heap w b cs cs' E (0, 0) h
theorem Blk.row_ne {w : World} {b : Nat} {cs : Array Value} {E : TypeId} (h : Blk w b cs E) {b' : Nat} (hb : b ≠ b') (cs' : Array Value) : Blk (w.setRow b' cs') b cs E := by
  unfold Blk at *; simp [World.setRow, Array.getElem?_modify, Ne.symm hb, h]
theorem Below.row {B : Nat} {a w : World} (h : Below B a w) {b : Nat} (hb : B ≤ b) (cs : Array Value) : Below B a (w.setRow b cs) :=
  h.trans ⟨rfl, rfl, rfl, by simp [World.setRow], fun k hk => by simp [World.setRow, Array.getElem?_modify, show b ≠ k by omega]⟩

/-- The one world is the other but for block g. -/
structure Only (g : Nat) (w w' : World) : Prop where
  os : w'.os = w.os
  tape : w'.tape = w.tape
  output : w'.output = w.output
  size : w'.heap.size = w.heap.size
  block : ∀ b, b ≠ g → w'.heap[b]? = w.heap[b]?
theorem Only.below {g B : Nat} {a w w' : World} (h : Only g w w') (hb : Below B a w) (hB : B ≤ g) : Below B a w' :=
  hb.trans ⟨h.os, h.tape, h.output, by rw [h.size]; exact Nat.le_refl _, fun k hk => h.block k (by omega)⟩
theorem Only.blk {g b : Nat} {w w' : World} {cs : Array Value} {E : TypeId} (h : Only g w w') (hb : Blk w b cs E) (hne : b ≠ g) : Blk w' b cs E := by
  unfold Blk at *; rw [h.block b hne]; exact hb
theorem Only.row (w : World) (g : Nat) (cs : Array Value) : Only g w (w.setRow g cs) := ⟨rfl, rfl, rfl, size_setRow w g cs, fun b hb => setRow_other w g b cs hb⟩
theorem Only.setCell (w : World) (g k : Nat) (s : Option Nat) (v : Value) : Only g w (w.setCell ⟨g, k, s⟩ v) := ⟨rfl, rfl, rfl, by simp [World.setCell], fun b hb => Below.heap_setCell w ⟨g, k, s⟩ v b hb⟩
theorem Only.cell {g : Nat} {w w' : World} (h : Only g w w') {p : Addr} (hp : p.block ≠ g) : w'.cell? p = w.cell? p := World.cell?_of_block (w := w) (h.block p.block hp)
theorem Only.trans {g : Nat} {a b c : World} (h : Only g a b) (k : Only g b c) : Only g a c :=
  ⟨k.os.trans h.os, k.tape.trans h.tape, k.output.trans h.output, k.size.trans h.size, fun i hi => (k.block i hi).trans (h.block i hi)⟩

/-- A slice that reads as these bytes; what it reads lies below block number B. -/
def RdB (w : World) (B : Nat) (v : Value) (l : List UInt8) : Prop :=
  ∃ base cap, v = .slice base l.length cap ∧ l.length ≤ cap ∧ cap ≤ 9223372036854775807 ∧ (base = none → cap = 0) ∧
    (0 < l.length → ∃ b o, base = some ⟨b, o, none⟩ ∧ b < B ∧ ∀ i, i < l.length → w.cell? ⟨b, o + i, none⟩ = some (.int .u8 ((l[i]?.getD 0).toNat : Int)))
theorem RdB.below {w w' : World} {B B' : Nat} {v : Value} {l : List UInt8} (h : RdB w B v l) (hb : Below B' w w') (hB : B ≤ B') : RdB w' B v l := by
  obtain ⟨base, cap, hv, h1, h2, hn, h3⟩ := h
  refine ⟨base, cap, hv, h1, h2, hn, fun hp => ?_⟩
  obtain ⟨b, o, hb0, hlt, hc⟩ := h3 hp
  exact ⟨b, o, hb0, hlt, fun i hi => (hb.cell (p := ⟨b, o + i, none⟩) (by show b < B'; omega)).trans (hc i hi)⟩
theorem RdB.mono {w : World} {B B' : Nat} {v : Value} {l : List UInt8} (h : RdB w B v l) (hB : B ≤ B') : RdB w B' v l := by
  obtain ⟨base, cap, hv, h1, h2, hn, h3⟩ := h
  refine ⟨base, cap, hv, h1, h2, hn, fun hp => ?_⟩
  obtain ⟨b, o, hb0, hlt, hc⟩ := h3 hp
  exact ⟨b, o, hb0, by omega, hc⟩

def u8V (x : UInt8) : Value := .int .u8 (x.toNat : Int)
/-- A slice of the call's own (its row lies from block 'base' on) that reads as these bytes. -/
def OwnB (w : World) (base : Nat) (E : TypeId) (v : Value) (l : List UInt8) : Prop := w.ownsRow base E 1 v l.length (l.map u8V)
theorem OwnB.nil (w : World) (base : Nat) (E : TypeId) : OwnB w base E (.slice none 0 0) [] := World.ownsRow_nil w base E 1
theorem OwnB.alloc {w : World} {base : Nat} {E : TypeId} {v : Value} {l : List UInt8} (h : OwnB w base E v l) (o : Obj) : OwnB (w.alloc o) base E v l := World.ownsRow.alloc h o
theorem OwnB.drew {w : World} {base : Nat} {E : TypeId} {v : Value} {l : List UInt8} (h : OwnB w base E v l) : OwnB w.drew base E v l := h
theorem OwnB.block {w : World} {base : Nat} {E : TypeId} {v : Value} {l : List UInt8} (h : OwnB w base E v l) : ∀ k, v.ownBlock = some k → base ≤ k ∧ k < w.heap.size := World.ownsRow.lt h
/-- It stays so in a world in which its own block is as it was. -/
theorem OwnB.same {w w' : World} {base : Nat} {E : TypeId} {v : Value} {l : List UInt8} (h : OwnB w base E v l) (hb : ∀ k, v.ownBlock = some k → w'.heap[k]? = w.heap[k]?) : OwnB w' base E v l := by
  obtain ⟨h1, h2⟩ := h
  refine ⟨h1, h2.imp id ?_⟩
  rintro ⟨g, cap, cur, rfl, hg, hh, r⟩
  exact ⟨g, cap, cur, rfl, hg, by rw [hb g rfl]; exact hh, r⟩
theorem OwnB.below {w w' : World} {base B : Nat} {E : TypeId} {v : Value} {l : List UInt8} (h : OwnB w base E v l) (hb : Below B w w') (hB : w.heap.size ≤ B) : OwnB w' base E v l :=
  h.same fun k hk => hb.block k (by have := (h.block k hk).2; omega)
theorem OwnB.only {w w' : World} {base g : Nat} {E : TypeId} {v : Value} {l : List UInt8} (h : OwnB w base E v l) (ho : Only g w w') (hg : g < base) : OwnB w' base E v l :=
  h.same fun k hk => ho.block k (by have := (h.block k hk).1; omega)
theorem OwnB.lit (w : World) (base : Nat) (E : TypeId) (hb : base ≤ w.heap.size) : OwnB (w.alloc (.cells #[] E)) base E (.slice (some ⟨w.heap.size, 0, none⟩) 0 0) [] :=
  ⟨rfl, .inr ⟨w.heap.size, 0, #[], rfl, hb, Blk.new w #[] E, Nat.le_refl _, by unfold maxLen; omega, rfl, rfl⟩⟩
theorem OwnB.form {w : World} {base : Nat} {E : TypeId} {v : Value} {l : List UInt8} (h : OwnB w base E v l) (hl : 0 < l.length) :
    ∃ g cap, v = .slice (some ⟨g, 0, none⟩) l.length cap ∧ base ≤ g ∧ g < w.heap.size ∧ l.length ≤ cap ∧ cap ≤ 9223372036854775807 := by
  obtain ⟨_, h | ⟨g, cap, cur, rfl, hg, hh, hn, hm, hs, ht⟩⟩ := h
  · omega
  · refine ⟨g, cap, rfl, hg, ?_, hn, by unfold maxLen at hm; omega⟩
    rcases Nat.lt_or_ge g w.heap.size with h' | h'
    · exact h'
    · rw [Array.getElem?_eq_none h'] at hh; cases hh
theorem OwnB.cell {w : World} {base g cap : Nat} {E : TypeId} {l : List UInt8} (h : OwnB w base E (.slice (some ⟨g, 0, none⟩) l.length cap) l) {j : Nat} (hj : j < l.length) :
    w.cell? ⟨g, j, none⟩ = some (.int .u8 ((l[j]?.getD 0).toNat : Int)) := by
  rw [World.ownsRow.cellAt h j (by omega)]; simp [u8V, hj]
theorem OwnB.free {w : World} {base g cap : Nat} {E : TypeId} {l : List UInt8} (h : OwnB w base E (.slice (some ⟨g, 0, none⟩) l.length cap) l) (j : Nat) : w.frozen? ⟨g, j, none⟩ = false := World.ownsRow.frozenAt h j
theorem OwnB.stored {w : World} {base g cap : Nat} {E : TypeId} {l : List UInt8} (h : OwnB w base E (.slice (some ⟨g, 0, none⟩) l.length cap) l) (j : Nat) (x : UInt8) :
    OwnB (w.setCell ⟨g, j, none⟩ (.int .u8 (x.toNat : Int))) base E (.slice (some ⟨g, 0, none⟩) l.length cap) (l.set j x) := by
  have := (World.ownsRow.stored h j (u8V x)).1
  unfold OwnB
  rw [List.length_set, List.map_set]
  exact this
/-- It reads as its bytes. -/
theorem OwnB.rd {w : World} {base : Nat} {E : TypeId} {v : Value} {l : List UInt8} (h : OwnB w base E v l) : RdB w w.heap.size v l := by
  obtain ⟨_, h | ⟨g, cap, cur, rfl, hg, hh, hn, hm, hs, ht⟩⟩ := h
  · obtain ⟨rfl, h0⟩ := h
    exact ⟨none, 0, by rw [h0], by omega, by omega, fun _ => rfl, fun hp => by omega⟩
  · refine ⟨_, cap, rfl, hn, by unfold maxLen at hm; omega, (fun e => by cases e), fun hp => ⟨g, 0, rfl, ?_, fun i hi => ?_⟩⟩
    · rcases Nat.lt_or_ge g w.heap.size with h' | h'
      · exact h'
      · rw [Array.getElem?_eq_none h'] at hh; cases hh
    · have : cur[i]? = some (.int .u8 ((l[i]?.getD 0).toNat : Int)) := by
        have h1 : (cur.toList.take (l.length * 1))[i]? = (l.map u8V)[i]? := by rw [ht]
        rw [List.getElem?_take] at h1
        simp [hi] at h1
        simp [h1, u8V, hi]
      simp [World.cell?, hh, this]
theorem grown_below {w w' : World} {row : Option Nat} {B : Nat} {a : World} (hg : w.grownBy w' row) (h : Below B a w) (hB : B ≤ w.heap.size) (hr : ∀ k, row = some k → B ≤ k) : Below B a w' := h.grown hg hB hr
theorem grown_blk {w w' : World} {row : Option Nat} {b : Nat} {cs : Array Value} {E : TypeId} (hg : w.grownBy w' row) (h : Blk w b cs E) (hb : row ≠ some b) : Blk w' b cs E := by
  have := h.lt
  unfold Blk at *; rw [hg.block b this (Ne.symm hb)]; exact h

/-- A row of sixteen bytes and the like: by its entries. -/
def mk (n : Nat) (f : Nat → UInt8) : List UInt8 := (List.range n).map f
theorem mk_length (n : Nat) (f : Nat → UInt8) : (mk n f).length = n := by simp [mk]
theorem mk_get {n : Nat} {f : Nat → UInt8} {k : Nat} (hk : k < n) : (mk n f)[k]?.getD 0 = f k := by simp [mk, hk]
theorem mk_congr {n : Nat} {f g : Nat → UInt8} (h : ∀ i, i < n → f i = g i) : mk n f = mk n g := by
  unfold mk; exact List.map_congr_left fun i hi => h i (by simpa using hi)
theorem mk_set {n : Nat} (f : Nat → UInt8) (k : Nat) (x : UInt8) : (mk n f).set k x = mk n fun i => if i = k then x else f i := by
  apply List.ext_getElem?
  intro i
  simp only [mk, List.getElem?_set, List.getElem?_map, List.length_map, List.length_range]
  by_cases h : k = i
  · subst h
    by_cases h2 : k < n
    · simp [h2]
    · simp [h2]
  · by_cases h2 : i < n
    · simp [h, Ne.symm h, h2]
    · simp [h, h2]
theorem mk_self (l : List UInt8) (n : Nat) (h : l.length = n) : mk n (fun i => l[i]?.getD 0) = l := by
  subst h
  apply List.ext_getElem?
  intro i
  by_cases h2 : i < l.length
  · simp [mk, h2]
  · simp [mk, h2]
/-- One step of a loop that fills. -/
theorem mk_step {n k : Nat} (f g : Nat → UInt8) : (mk n fun i => if i < k then f i else g i).set k (f k) = mk n fun i => if i < k + 1 then f i else g i := by
  rw [mk_set]
  apply mk_congr
  intro i _
  by_cases h : i = k
  · subst h; simp
  · by_cases h2 : i < k
    · simp [h, h2, show i < k + 1 by omega]
    · simp [h, h2, show ¬ i < k + 1 by omega]

section
variable {P : Program} {ops : Array Oper} {rest : List Oper} {o : Oper} {a : Act} {w : World} {Q : Exit → Act → World → Prop}
/-- A literal of a struct or an array, its cells told. -/
theorem wpList_buildC (hg : o.guard = none) (t : TypeId) (parts : Array (Nat × Operand)) (ho : o.op = .build t parts) (cells : Array Value)
    (hf : P.built t (parts.map fun (i, x) => (i, a.eval x)).toList = some cells)
    (h : wpList P ops Q rest (a.put o.dst (.agg cells)) w) : wpList P ops Q (o :: rest) a w :=
  wpList_build hg t parts ho (by rw [hf]; rfl) (by rw [hf]; exact h)
/-- A whole row stored. -/
theorem wpList_storeR (hg : o.guard = none) (ty : TypeId) (x y : Operand) (ho : o.op = .store ty x y) (g : Nat) (cells old : Array Value)
    (hx : a.eval x = .pointer (some ⟨g, 0, none⟩)) (hy : a.eval y = .agg cells) (E : TypeId) (hb : Blk w g old E) (n : Nat) (hi : (P.info? ty).map (·.size) = some n)
    (hn : cells.size = n) (hold : old.size = n) (h1 : cells.all (·.oneCell') = true)
    (h : wpList P ops Q rest (a.put o.dst undef) (w.setRow g cells)) : wpList P ops Q (o :: rest) a w :=
  wpList_store_row hg ty x y ho g cells hx hy E old hb (by rw [hi, hn]) (by rw [hold, hn]) h1 h
def aggT (P : Program) (t : TypeId) : Bool := match P.underlying t with | some (.struct _) | some (.array _ _) => true | _ => false
theorem aggT_out {t : TypeId} (h : aggT P t = true) : (∃ f, P.underlying t = some (.struct f)) ∨ (∃ n e, P.underlying t = some (.array n e)) := by
  unfold aggT at h
  split at h <;> first | (cases h; done) | exact .inl ⟨_, ‹_›⟩ | exact .inr ⟨_, _, ‹_›⟩
/-- .. what follows, in a world of which no more is known. -/
theorem wpList_storeO (hg : o.guard = none) (ty : TypeId) (x y : Operand) (ho : o.op = .store ty x y) (g : Nat) (cells old : Array Value)
    (hx : a.eval x = .pointer (some ⟨g, 0, none⟩)) (hy : a.eval y = .agg cells) (E : TypeId) (hb : Blk w g old E) (n : Nat) (hi : (P.info? ty).map (·.size) = some n)
    (hn : cells.size = n) (hold : old.size = n) (h1 : cells.all (·.oneCell') = true)
    (h : ∀ w', Only g w w' → Blk w' g cells E → wpList P ops Q rest (a.put o.dst undef) w') : wpList P ops Q (o :: rest) a w :=
  wpList_storeR hg ty x y ho g cells old hx hy E hb n hi hn hold h1 (h _ (Only.row _ _ _) (hb.row _))
/-- A whole row read. -/
theorem wpList_loadR (hg : Region.wanted o (yielded ops a.tmps) = true) (ty : TypeId) (x : Operand) (ho : o.op = .load ty x) (g : Nat) (cs : Array Value)
    (hx : a.eval x = .pointer (some ⟨g, 0, none⟩)) (E : TypeId) (hb : Blk w g cs E) (hagg : aggT P ty = true) (n : Nat) (hi : (P.info? ty).map (·.size) = some n) (hn : cs.size = n)
    (h : wpList P ops Q rest (a.put o.dst (.agg cs)) w) : wpList P ops Q (o :: rest) a w :=
  wpList_step fun K hK => by
    rw [if_pos hg]
    rcases aggT_out hagg with ⟨f, hu⟩ | ⟨m, e, hu⟩
    · exact wp_load_row ty x ho g hx E cs (0, 0) _ hb hu rfl (by rw [hi, hn]) (hK _ _ h)
    · exact wp_load_row ty x ho g hx E cs (0, 0) _ hb hu rfl (by rw [hi, hn]) (hK _ _ h)
/-- A type of one cell. -/
def oneT (P : Program) (t : TypeId) : Bool := ((P.info? t).map (·.size) == some 1) && (match P.underlying t with | some (.struct _) | some (.array _ _) | none => false | _ => true)
theorem oneT_size {t : TypeId} (h : oneT P t = true) : (sizeOf t).run P w = .ok 1 w := by
  simp only [oneT, Bool.and_eq_true, beq_iff_eq] at h
  cases hq : P.info? t with
  | none => rw [hq] at h; simp at h
  | some i => rw [hq] at h; simp at h; simp [sizeOf, typeInfo, hq, h.1]
theorem oneT_agg {t : TypeId} (h : oneT P t = true) : (isAgg t).run P w = .ok false w := by
  simp only [oneT, Bool.and_eq_true] at h
  have h2 := h.2
  cases hq : P.underlying t with
  | none => rw [hq] at h2; cases h2
  | some d =>
    unfold isAgg
    rw [Sem.run_bind, run_underlying hq w]
    cases d <;> simp_all
theorem run_indexA {t E : TypeId} {n : Nat} {cs : Array Value} {k : IntKind} {i : Int} {v : Value} (hu : P.underlying t = some (.array n E)) (hE : oneT P E = true)
    (h0 : 0 ≤ i) (h1 : i < n) (hv : cs[i.toNat]? = some v) : (Instr.index t (.agg cs) (.int k i)).run P w = .ok v w := by
  simp [Instr.index, asIntOf, run_underlying hu, h0, h1, oneT_size hE, part, oneT_agg hE, hv]
/-- An element out of an array's value. -/
theorem wpList_indexA (hg : o.guard = none) (t : TypeId) (x ix : Operand) (ho : o.op = .index t x ix) (cs : Array Value) (hx : a.eval x = .agg cs) (k : IntKind) (i : Int) (hi : a.eval ix = .int k i)
    (n : Nat) (E : TypeId) (hu : P.underlying t = some (.array n E)) (hE : oneT P E = true) (h0 : 0 ≤ i) (h1 : i < n) (v : Value) (hv : cs[i.toNat]? = some v)
    (h : wpList P ops Q rest (a.put o.dst v) w) : wpList P ops Q (o :: rest) a w :=
  wpList_plain hg fun K hK => by
    unfold Oper.wp execOp
    simp only [ho, hx, hi, Sem.run_bind, run_indexA hu hE h0 h1 hv, Result.andThen_ok, Sem.run_pure]
    exact hK _ _ h

/-- Bytes copied into a block. -/
theorem wpList_copyB (hgd : o.guard = none) (d s : Operand) (dT sT : TypeId) (ho : o.op = .call { callee := .builtin .copy, args := #[d, s], argTypes := #[dT, sT] }) (elem : TypeId)
    (hu : P.underlying dT = some (.slice elem)) (hsz : (P.info? elem).map (·.size) = some 1) (g off dLen dCap sb so sLen sCap : Nat)
    (hd : a.eval d = .slice (some ⟨g, off, none⟩) dLen dCap) (hs : a.eval s = .slice (some ⟨sb, so, none⟩) sLen sCap)
    (cur : Array Value) (E : TypeId) (hb : Blk w g cur E) (m : Nat) (hm : m = Nat.min sLen dLen) (x : Nat → UInt8)
    (hsrc : ∀ j, j < m → w.cell? ⟨sb, so + j, none⟩ = some (.int .u8 ((x j).toNat : Int))) (hfit : off + m ≤ cur.size)
    (cur' : Array Value) (hcur : ∀ p : Nat, cur'[p]? = if off ≤ p ∧ p < off + m then some (.int .u8 ((x (p - off)).toNat : Int)) else cur[p]?)
    (h : ∀ w', Only g w w' → Blk w' g cur' E → wpList P ops Q rest (a.put o.dst (goInt m)) w') :
    wpList P ops Q (o :: rest) a w := by
  have hl : ((List.range m).map fun j => Value.int .u8 ((x j).toNat : Int)).length = m := by simp
  have hadd : ∀ j, (⟨sb, so, none⟩ : Addr).add j = ⟨sb, so + j, none⟩ := fun j => by unfold Addr.add; split <;> simp_all
  have e : (cur.toList.take off ++ (((List.range m).map fun j => Value.int .u8 ((x j).toNat : Int)) ++ cur.toList.drop (off + m))).toArray = cur' := by
    apply Array.ext_getElem?
    intro p
    rw [hcur p]
    simp only [List.getElem?_toArray, List.getElem?_append, List.length_take, Array.length_toList, List.length_map, List.length_range, List.getElem?_map, List.getElem?_take, List.getElem?_drop]
    have hmin : min off cur.size = off := by omega
    rw [hmin]
    by_cases h1 : p < off
    · rw [if_pos h1, if_pos h1, if_neg (by omega)]; simp
    · rw [if_neg h1]
      by_cases h2 : p < off + m
      · rw [if_pos (by omega), if_pos (by omega), List.getElem?_range (by omega)]; rfl
      · rw [if_neg (by omega), if_neg (by omega), show off + m + (p - off - m) = p by omega]; simp
  refine wpList_copy_own hgd d s dT sT ho elem hu hsz g off dLen dCap ⟨sb, so, none⟩ sLen sCap hd hs cur E hb ((List.range m).map fun j => Value.int .u8 ((x j).toNat : Int)) (by rw [hl]; exact hm) (fun j v hj => ?_) (by rw [hl]; exact hfit) (fun v hv => ?_) ?_
  · rw [List.getElem?_map] at hj
    by_cases hjm : j < m
    · simp [hjm] at hj
      rw [hadd, ← hj]; exact hsrc j hjm
    · simp [hjm] at hj
  · simp only [List.mem_map] at hv
    obtain ⟨j, _, rfl⟩ := hv; rfl
  · rw [hl, e]
    exact h _ (Only.row _ _ _) (hb.row _)
/-- A struct or an array read, wherever it lies. -/
theorem wpList_loadA (hg : o.guard = none) (ty : TypeId) (x : Operand) (ho : o.op = .load ty x) (b off : Nat) (hx : a.eval x = .pointer (some ⟨b, off, none⟩)) (hagg : aggT P ty = true)
    (cs : List Value) (hi : (P.info? ty).map (·.size) = some cs.length) (hc : ∀ j v, cs[j]? = some v → w.cell? ⟨b, off + j, none⟩ = some v)
    (h : wpList P ops Q rest (a.put o.dst (.agg cs.toArray)) w) : wpList P ops Q (o :: rest) a w :=
  wpList_plain hg fun K hK => by
    have hadd : ∀ j, (⟨b, off, none⟩ : Addr).add j = ⟨b, off + j, none⟩ := fun j => by unfold Addr.add; split <;> simp_all
    have hl := run_loadCells_list (P := P) w ⟨b, off, none⟩ cs fun j v hj => by rw [hadd]; exact hc j v hj
    have hsz : (sizeOf ty).run P w = .ok cs.length w := by
      cases hq : P.info? ty with
      | none => simp [hq] at hi
      | some i => simp [hq] at hi; simp [sizeOf, typeInfo, hq, hi]
    have ha : (isAgg ty).run P w = .ok true w := by
      rcases aggT_out hagg with ⟨f, hu⟩ | ⟨m, e, hu⟩ <;> simp [isAgg, run_underlying hu]
    unfold Oper.wp execOp
    simp only [ho, hx, Instr.loadAt, Instr.sureAddr, Sem.run_bind, Sem.run_pure, Result.andThen_ok, loadVar, ha, if_true, hsz, hl]
    exact hK _ _ h

theorem wpList_loadAB (hg : o.guard = none) (ty : TypeId) (x : Operand) (ho : o.op = .load ty x) (b off : Nat) (hx : a.eval x = .pointer (some ⟨b, off, none⟩)) (hagg : aggT P ty = true)
    (n : Nat) (hi : (P.info? ty).map (·.size) = some n) (f : Nat → UInt8) (hc : ∀ j, j < n → w.cell? ⟨b, off + j, none⟩ = some (.int .u8 ((f j).toNat : Int)))
    (h : wpList P ops Q rest (a.put o.dst (.agg (bytesV (mk n f)))) w) : wpList P ops Q (o :: rest) a w :=
  wpList_loadA hg ty x ho b off hx hagg ((mk n f).map fun (x : UInt8) => Value.int .u8 (x.toNat : Int)) (by rw [hi, List.length_map, mk_length]) (fun j v hj => by
    rw [List.getElem?_map] at hj
    by_cases hjn : j < n
    · have : (mk n f)[j]? = some (f j) := by simp [mk, hjn]
      rw [this] at hj
      simp only [Option.map_some, Option.some.injEq] at hj
      rw [← hj]; exact hc j hjn
    · rw [List.getElem?_eq_none (by rw [mk_length]; omega)] at hj; cases hj) h

/-- Are two rows of bytes one? -/
def eqA (n : Nat) (f g : Nat → UInt8) : Bool := (List.range' 0 n 1).all fun i => f i == g i
theorem eqA_true {n : Nat} {f g : Nat → UInt8} : eqA n f g = true ↔ ∀ i, i < n → f i = g i := by
  unfold eqA
  rw [List.all_eq_true]
  constructor
  · intro h i hi; exact beq_iff_eq.1 (h i (by rw [List.mem_range'_1]; omega))
  · intro h i hi; rw [List.mem_range'_1] at hi; exact beq_iff_eq.2 (h i (by omega))
theorem run_equal_arr {t E : TypeId} {n : Nat} {k : IntKind} (hu : P.underlying t = some (.array n E)) (hE : P.underlying E = some (.int k)) (h1 : oneT P E = true) (f g : Nat → UInt8) :
    (Op.equalIn 10000 t (.agg (bytesV (mk n f))) (.agg (bytesV (mk n g)))).run P w = .ok (eqA n f g) w := by
  have hpart : ∀ (h : Nat → UInt8) (i : Nat), i < n → (part E (bytesV (mk n h)) (i * 1)).run P w = .ok (.int .u8 ((h i).toNat : Int)) w := fun h i hi => by
    have : (bytesV (mk n h))[i]? = some (.int .u8 ((h i).toNat : Int)) := by rw [bytesV_get _ _ (by rw [mk_length]; exact hi), mk_get hi]
    simp [part, oneT_agg h1, this]
  have hel : ∀ (d : Nat) (x y : UInt8), (Op.equalIn (d + 1) E (.int .u8 (x.toNat : Int)) (.int .u8 (y.toNat : Int))).run P w = .ok (x == y) w := fun d x y => by
    unfold Op.equalIn
    rw [Sem.run_bind, run_underlying hE]
    simp only [Result.andThen_ok, if_true, Sem.run_pure]
    congr 1
    rw [Bool.eq_iff_iff, beq_iff_eq, beq_iff_eq]
    exact ⟨fun h => UInt8.toNat_inj.1 (by omega), fun h => by rw [h]⟩
  show (Op.equalIn (9998 + 1 + 1) t _ _).run P w = _
  unfold Op.equalIn
  rw [Sem.run_bind, run_underlying hu]
  simp only [Result.andThen_ok, Sem.run_bind, oneT_size h1]
  rw [Std.Legacy.Range.forIn_eq_forIn_range']
  have loop : ∀ (l : List Nat), (∀ i ∈ l, i < n) → (forIn l ((none, ()) : Option Bool × Unit) (fun i _ => (do
      let x ← part E (bytesV (mk n f)) (i * 1)
      let y ← part E (bytesV (mk n g)) (i * 1)
      let r ← Op.equalIn (9998 + 1) E x y
      if (!r) = true then pure (ForInStep.done (some false, ())) else pure (ForInStep.yield (none, ())) : Sem (ForInStep (Option Bool × Unit))))).run P w = .ok (if l.all (fun i => f i == g i) then (none, ()) else (some false, ())) w := by
    intro l
    induction l with
    | nil => intro _; rw [List.forIn_nil]; rfl
    | cons i l ih =>
      intro hl
      rw [List.forIn_cons]
      simp only [Sem.run_bind, hpart f i (hl i (by simp)), hpart g i (hl i (by simp)), Result.andThen_ok, hel]
      cases hb : (f i == g i) with
      | true =>
        simp only [Bool.not_true, Bool.false_eq_true, if_false, Sem.run_pure, Result.andThen_ok, List.all_cons, hb, Bool.true_and]
        exact ih fun j hj => hl j (by simp [hj])
      | false => simp [hb, Sem.run_pure]
  have hl := loop (List.range' 0 n 1) (fun i hi => by rw [List.mem_range'_1] at hi; omega)
  have hsize : ([:n] : Std.Legacy.Range).size = n := by simp [Std.Legacy.Range.size]
  have e : List.range' ([:n] : Std.Legacy.Range).start ([:n] : Std.Legacy.Range).size ([:n] : Std.Legacy.Range).step = List.range' 0 n 1 := by rw [hsize]
  rw [e]
  rw [hl]
  simp only [Result.andThen_ok]
  unfold eqA
  cases (List.range' 0 n 1).all (fun i => f i == g i) <;> rfl
/-- Bytes appended to a slice of the call's own. -/
theorem wpList_appendB (hgd : o.guard = none) (s x : Operand) (t : TypeId) (ho : o.op = .call { callee := .builtin .append, args := #[s, x], argTypes := #[t, t] })
    (base : Nat) (E : TypeId) (ht : P.underlying t = some (.slice E)) (hi : (P.info? E).map (fun i => (i.zero, i.size, i.bytes)) = some (some (.int .u8 0), 1, 1))
    (v : Value) (l : List UInt8) (hs : a.eval s = v) (hown : OwnB w base E v l) (sb so m c : Nat) (hx : a.eval x = .slice (some ⟨sb, so, none⟩) m c) (news : List UInt8) (hl : news.length = m)
    (hnews : ∀ j, j < m → w.cell? ⟨sb, so + j, none⟩ = some (.int .u8 ((news[j]?.getD 0).toNat : Int))) (h47 : l.length + m ≤ 140737488355328) (hbase : base ≤ w.heap.size)
    (h : ∀ v' w', OwnB w' base E v' (l ++ news) → w.grownBy w' v.ownBlock → wpList P ops Q rest (a.put o.dst v') w') : wpList P ops Q (o :: rest) a w := by
  cases hq : P.info? E with
  | none => simp [hq] at hi
  | some i =>
    simp only [hq, Option.map_some, Option.some.injEq, Prod.mk.injEq] at hi
    have hadd : ∀ j, (⟨sb, so, none⟩ : Addr).add j = ⟨sb, so + j, none⟩ := fun j => by unfold Addr.add; split <;> simp_all
    refine wpList_append_own w hgd s x t ho base E i (.int .u8 0) 1 1 ht hq hi.1 hi.2.1 hi.2.2 rfl (by decide) v l.length (l.map u8V) hs hown ⟨sb, so, none⟩ m c (news.map u8V) hx (by simp [hl]) (fun j u hj => ?_) (fun u hu => ?_) (by unfold maxLen; omega) (by omega) hbase (fun v' w' h1 h2 _ => h v' w' ?_ h2)
    · rw [List.getElem?_map] at hj
      by_cases hjm : j < m
      · have := hnews j hjm
        rw [hadd]
        have hjn : j < news.length := by omega
        simp [hjn] at hj this
        rw [← hj]; exact this
      · rw [List.getElem?_eq_none (by omega)] at hj; cases hj
    · simp only [List.mem_map] at hu
      obtain ⟨b, _, rfl⟩ := hu; rfl
    · unfold OwnB
      rw [List.length_append, List.map_append, hl]; exact h1

/-- .. whatever slice they are read from. -/
theorem wpList_appendR (hgd : o.guard = none) (s x : Operand) (t : TypeId) (ho : o.op = .call { callee := .builtin .append, args := #[s, x], argTypes := #[t, t] })
    (base : Nat) (E : TypeId) (ht : P.underlying t = some (.slice E)) (hi : (P.info? E).map (fun i => (i.zero, i.size, i.bytes)) = some (some (.int .u8 0), 1, 1))
    (v : Value) (l : List UInt8) (hs : a.eval s = v) (hown : OwnB w base E v l) (vx : Value) (B : Nat) (hx : a.eval x = vx) (news : List UInt8) (hr : RdB w B vx news)
    (h47 : l.length + news.length ≤ 140737488355328) (hbase : base ≤ w.heap.size)
    (h : ∀ v' w', OwnB w' base E v' (l ++ news) → w.grownBy w' v.ownBlock → wpList P ops Q rest (a.put o.dst v') w') : wpList P ops Q (o :: rest) a w := by
  obtain ⟨bs, cap, rfl, hc1, hc2, hn, h3⟩ := hr
  cases hq : P.info? E with
  | none => simp [hq] at hi
  | some i =>
    have hi' := hi
    simp only [hq, Option.map_some, Option.some.injEq, Prod.mk.injEq] at hi
    cases bs with
    | none =>
      have hl0 : news.length = 0 := by have := hn rfl; omega
      obtain rfl : news = [] := List.eq_nil_of_length_eq_zero hl0
      rw [hn rfl] at hx
      refine wpList_append_own_none hgd s x t ho base E i 1 ht hq v l.length (l.map u8V) hs hown hx ?_
      exact h v w (by rw [List.append_nil]; exact hown) (World.grownBy.refl w _)
    | some ad =>
      by_cases hp : 0 < news.length
      · obtain ⟨b, o', hb, _, hcell⟩ := h3 hp
        obtain rfl : ad = ⟨b, o', none⟩ := by simpa using hb
        exact wpList_appendB hgd s x t ho base E ht hi' v l hs hown b o' news.length cap hx news rfl hcell h47 hbase h
      · have hl0 : news.length = 0 := by omega
        obtain rfl : news = [] := List.eq_nil_of_length_eq_zero hl0
        refine wpList_append_own w hgd s x t ho base E i (.int .u8 0) 1 1 ht hq hi.1 hi.2.1 hi.2.2 rfl (by decide) v l.length (l.map u8V) hs hown ad 0 cap [] hx rfl (fun j u hj => by simp at hj) (fun u hu => by simp at hu) (by unfold maxLen; simp at h47; omega) (by simp at h47; omega) hbase (fun v' w' h1 h2 _ => h v' w' ?_ h2)
        simpa [OwnB] using h1

/-- The end of a function whose one result is a row. -/
theorem ret_row {fn : Func} {R : Ending → World → Prop} {p : Tmp} {ty : TypeId} (hr : fn.results = #[.cell p ty]) (g : Nat) (cs : Array Value) (E : TypeId)
    (hp : a.tmps.getD p undef = .pointer (some ⟨g, 0, none⟩)) (hb : Blk w g cs E) (hagg : aggT P ty = true) (n : Nat) (hi : (P.info? ty).map (·.size) = some n) (hn : cs.size = n)
    (hdef : a.defers = []) (hR : R (.returned (.agg cs)) w) : bodyPost P fn R .ret a w := by
  rcases aggT_out hagg with ⟨f, hu⟩ | ⟨m, e, hu⟩
  · exact bodyPost_ret (results_cell_row hr a.tmps w g E cs (0, 0) _ hp hb hu rfl (by rw [hi, hn])) hdef hR
  · exact bodyPost_ret (results_cell_row hr a.tmps w g E cs (0, 0) _ hp hb hu rfl (by rw [hi, hn])) hdef hR
end

/-! ### Bits of bytes -/
theorem bits_nat_xor (k : IntKind) (j : Nat) (hj : j ≤ k.bits) (hk : ∀ n : Int, 0 ≤ n → n < 2 ^ j → k.wrap n = n) (a b : Nat) (ha : a < 2 ^ j) (hb : b < 2 ^ j) :
    bits .xor k a b = ((a ^^^ b : Nat) : Int) := by
  have hp : 2 ^ j ≤ 2 ^ k.bits := Nat.pow_le_pow_right (by decide) hj
  have ha' : a % 2 ^ k.bits = a := Nat.mod_eq_of_lt (Nat.lt_of_lt_of_le ha hp)
  have hb' : b % 2 ^ k.bits = b := Nat.mod_eq_of_lt (Nat.lt_of_lt_of_le hb hp)
  have cast : ∀ n : Nat, n < 2 ^ j → ((n : Nat) : Int) < 2 ^ j := fun n h => by exact_mod_cast h
  simp only [bits, BitVec.ofInt_natCast, BitVec.toNat_xor, BitVec.toNat_ofNat, ha', hb']
  exact hk _ (Int.natCast_nonneg _) (cast _ (Nat.xor_lt_two_pow ha hb))
theorem bits_xor_u8 (x y : UInt8) : bits .xor .u8 (x.toNat : Int) (y.toNat : Int) = ((x ^^^ y).toNat : Int) := by
  rw [bits_nat_xor .u8 8 (by decide) wraps_u8 _ _ x.toNat_lt y.toNat_lt, UInt8.toNat_xor]
/-- The xor of two bytes, under a name that 'simp' leaves alone. -/
def xr (x y : UInt8) : UInt8 := x ^^^ y
theorem bits_xr (x y : UInt8) : bits .xor .u8 (x.toNat : Int) (y.toNat : Int) = ((xr x y).toNat : Int) := bits_xor_u8 x y
theorem bits_and_u8 (x y : UInt8) : bits .and .u8 (x.toNat : Int) (y.toNat : Int) = ((x &&& y).toNat : Int) := by
  rw [(bits_nat .u8 8 (by decide) wraps_u8 _ _ x.toNat_lt y.toNat_lt).1, UInt8.toNat_and]
theorem bits_or_u8 (x y : UInt8) : bits .or .u8 (x.toNat : Int) (y.toNat : Int) = ((x ||| y).toNat : Int) := by
  rw [(bits_nat .u8 8 (by decide) wraps_u8 _ _ x.toNat_lt y.toNat_lt).2, UInt8.toNat_or]
end Go.Proofs.Ytnbjpilanjngmaa.XS
