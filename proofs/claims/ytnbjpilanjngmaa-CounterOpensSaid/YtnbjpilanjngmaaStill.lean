/- Which operations leave the world alone: small laws about the model alone. -/
import Derived.WalkKit
import Derived.StillTail
import Derived.Deep.Quiet
import Derived.KernelRfl
namespace Go.Proofs.Ytnbjpilanjngmaa.XS
open Go

/-- The run, where it comes to an answer, leaves the world alone. -/
def StillS {α : Type} (P : Program) (s : Sem α) : Prop := ∀ w a w', s.run P w = .ok a w' → w' = w
def NoOk {α : Type} (P : Program) (s : Sem α) : Prop := ∀ w a w', s.run P w ≠ .ok a w'

variable {P : Program} {α β : Type}
theorem NoOk.still {s : Sem α} (h : NoOk P s) : StillS P s := fun w a w' e => absurd e (h w a w')
theorem NoOk.bind {s : Sem α} {f : α → Sem β} (hf : ∀ a, NoOk P (f a)) : NoOk P (s >>= f) := fun w b w' h => by
  rw [Sem.run_bind] at h
  cases hr : s.run P w with
  | ok a w1 => rw [hr] at h; simp only [Result.andThen_ok] at h; exact hf a _ _ _ h
  | halt x w1 => rw [hr] at h; simp [Result.andThen] at h
theorem NoOk.halt (h : Halt) : NoOk P (Sem.halt h : Sem α) := fun w b w' e => by simp [Sem.run] at e
theorem NoOk.goPanic (v : Value) : NoOk P (Go.goPanic v : Sem α) := NoOk.halt _
theorem NoOk.runtimePanic (e : RuntimeError) : NoOk P (Go.runtimePanic e : Sem α) := by
  unfold Go.runtimePanic
  refine NoOk.bind fun p => ?_
  cases e <;> dsimp only <;> (repeat (refine NoOk.bind fun _ => ?_)) <;> exact NoOk.goPanic _
theorem NoOk.boundsPanic (k : IntKind) (x y : Int) (c : BoundsCode) : NoOk P (Go.boundsPanic k x y c : Sem α) := by
  unfold Go.boundsPanic
  dsimp only
  split <;> exact NoOk.bind fun _ => NoOk.runtimePanic _
theorem StillS.pure (a : α) : StillS P (Pure.pure a : Sem α) := fun w b w' h => by simp [Sem.run_pure] at h; exact h.2.symm
theorem StillS.bind {s : Sem α} {f : α → Sem β} (hs : StillS P s) (hf : ∀ a, StillS P (f a)) : StillS P (s >>= f) := fun w b w' h => by
  rw [Sem.run_bind] at h
  cases hr : s.run P w with
  | ok a w1 => rw [hr] at h; simp only [Result.andThen_ok] at h; rw [hf a _ _ _ h, hs _ _ _ hr]
  | halt x w1 => rw [hr] at h; simp [Result.andThen] at h
theorem StillS.map {s : Sem α} {f : α → β} (hs : StillS P s) : StillS P (f <$> s) := StillS.bind hs fun _ => StillS.pure _
theorem StillS.halt (h : Halt) : StillS P (Sem.halt h : Sem α) := fun w b w' e => by simp [Sem.run] at e
theorem StillS.stuck (s : String) : StillS P (Go.stuck s : Sem α) := StillS.halt _
theorem StillS.unsupported (u : Unsupported) : StillS P (Go.unsupported u : Sem α) := StillS.halt _
theorem StillS.program : StillS P (Go.program) := fun w b w' e => by simp [Go.program, Sem.run] at e; exact e.2.symm
theorem StillS.shape (r : Nat) : StillS P (Go.shape r) := fun w b w' e => by simp [Go.shape, Sem.run] at e; exact e.2.symm
theorem StillS.getObj (r : Nat) : StillS P (Go.getObj r) := fun w b w' e => by
  simp only [Go.getObj, Sem.run] at e
  split at e <;> first | (simp at e; done) | (simp at e; exact e.2.symm)
theorem StillS.load (a : Addr) (m : Mode) : StillS P (Go.load a m) := fun w b w' e => by
  simp only [Go.load, Sem.run] at e
  split at e
  · simp at e; exact e.2.symm
  · split at e
    · simp at e; exact e.2.symm
    · simp at e
theorem StillS.runtimePanic (e : RuntimeError) : StillS P (Go.runtimePanic e : Sem α) := (NoOk.runtimePanic e).still
theorem StillS.boundsPanic (k : IntKind) (x y : Int) (c : BoundsCode) : StillS P (Go.boundsPanic k x y c : Sem α) := (NoOk.boundsPanic k x y c).still
theorem StillS.underlying (t : TypeId) : StillS P (Go.underlying t) := by
  unfold Go.underlying; refine .bind .program fun p => ?_; split <;> first | exact .pure _ | exact .stuck _
theorem StillS.typeInfo (t : TypeId) : StillS P (Go.typeInfo t) := by
  unfold Go.typeInfo; refine .bind .program fun p => ?_; split <;> first | exact .pure _ | exact .stuck _
theorem StillS.sizeOf (t : TypeId) : StillS P (Go.sizeOf t) := by
  unfold Go.sizeOf; exact .bind (.typeInfo t) fun p => .pure _
theorem StillS.isAgg (t : TypeId) : StillS P (Go.isAgg t) := by
  unfold Go.isAgg; refine .bind (.underlying t) fun p => ?_; split <;> exact .pure _
theorem StillS.asIntOf (v : Value) : StillS P (Go.asIntOf v) := by
  unfold Go.asIntOf; split <;> first | exact .pure _ | exact .stuck _ | exact .unsupported _
theorem StillS.asBool (v : Value) : StillS P (Go.asBool v) := by
  unfold Go.asBool; split <;> first | exact .pure _ | exact .stuck _
theorem StillS.asAgg (v : Value) : StillS P (Go.asAgg v) := by
  unfold Go.asAgg; split <;> first | exact .pure _ | exact .stuck _
theorem StillS.asAddr (v : Value) : StillS P (Go.asAddr v) := by
  unfold Go.asAddr; split <;> first | exact .pure _ | exact .stuck _ | exact .runtimePanic _
theorem StillS.sureAddr (v : Value) : StillS P (Instr.sureAddr v) := by
  unfold Instr.sureAddr; split <;> first | exact .pure _ | exact .stuck _
theorem StillS.loadCellsFrom (a : Addr) : ∀ (n i : Nat) (acc : Array Value), StillS P (Go.loadCellsFrom a i n acc)
  | 0, _, _ => .pure _
  | n + 1, i, _ => .bind (.load _ _) fun _ => StillS.loadCellsFrom a n (i + 1) _
theorem StillS.loadVar (t : TypeId) (a : Addr) : StillS P (Go.loadVar t a) := by
  unfold Go.loadVar; refine .bind (.isAgg t) fun b => ?_
  split
  · exact .bind (.sizeOf t) fun _ => .bind (StillS.loadCellsFrom a _ 0 #[]) fun _ => .pure _
  · exact .load _ _
theorem StillS.part (t : TypeId) (cs : Array Value) (o : Nat) : StillS P (Go.part t cs o) := by
  unfold Go.part; refine .bind (.isAgg t) fun b => ?_
  split
  · exact .bind (.sizeOf t) fun _ => .pure _
  · split <;> first | exact .pure _ | exact .stuck _
theorem StillS.viewAt (r : Nat) : StillS P (Go.viewAt r) := by
  unfold Go.viewAt
  repeat' (first | exact .pure _ | exact .stuck _ | exact .unsupported _ | exact .boundsPanic _ _ _ _ | exact .runtimePanic _ | exact .sizeOf _ | exact .underlying _ | exact .typeInfo _ | exact .sureAddr _ | exact .asIntOf _ | exact .asAddr _ | exact .program | exact .shape _ | exact .getObj _ | exact .load _ _ | with_reducible (refine .bind ?_ fun _ => ?_) | with_reducible (refine .map ?_) | split | dsimp only)
theorem StillS.indexAt (t : TypeId) (v i : Value) : StillS P (Instr.indexAt t v i) := by
  unfold Instr.indexAt
  repeat' (first | exact .pure _ | exact .stuck _ | exact .unsupported _ | exact .boundsPanic _ _ _ _ | exact .runtimePanic _ | exact .sizeOf _ | exact .underlying _ | exact .typeInfo _ | exact .sureAddr _ | exact .asIntOf _ | exact .asAddr _ | exact .program | exact .shape _ | exact .getObj _ | exact .load _ _ | with_reducible (refine .bind ?_ fun _ => ?_) | with_reducible (refine .map ?_) | split | dsimp only)
theorem StillS.sliceBound (x : Value) (y : Nat) (c : BoundsCode) : StillS P (Instr.sliceBound x y c) := by
  unfold Instr.sliceBound
  repeat' (first | exact .pure _ | exact .stuck _ | exact .unsupported _ | exact .boundsPanic _ _ _ _ | exact .runtimePanic _ | exact .sizeOf _ | exact .underlying _ | exact .typeInfo _ | exact .sureAddr _ | exact .asIntOf _ | exact .asAddr _ | exact .program | exact .shape _ | exact .getObj _ | exact .load _ _ | with_reducible (refine .bind ?_ fun _ => ?_) | with_reducible (refine .map ?_) | split | dsimp only)
theorem StillS.sliceBounds (s : Bool) (l c : Nat) (x y z : Option Value) : StillS P (Instr.sliceBounds s l c x y z) := by
  unfold Instr.sliceBounds
  repeat' (first | exact .pure _ | exact .sliceBound _ _ _ | exact .stuck _ | exact .unsupported _ | exact .boundsPanic _ _ _ _ | exact .runtimePanic _ | exact .sizeOf _ | exact .underlying _ | exact .typeInfo _ | exact .sureAddr _ | exact .asIntOf _ | exact .asAddr _ | exact .program | exact .shape _ | exact .getObj _ | exact .load _ _ | with_reducible (refine .bind ?_ fun _ => ?_) | with_reducible (refine .map ?_) | split | dsimp only)
theorem StillS.slice (t : TypeId) (v : Value) (x y z : Option Value) : StillS P (Instr.slice t v x y z) := by
  unfold Instr.slice
  repeat' (first | exact .pure _ | exact .sliceBounds _ _ _ _ _ _ | exact .stuck _ | exact .unsupported _ | exact .boundsPanic _ _ _ _ | exact .runtimePanic _ | exact .sizeOf _ | exact .underlying _ | exact .typeInfo _ | exact .sureAddr _ | exact .asIntOf _ | exact .asAddr _ | exact .program | exact .shape _ | exact .getObj _ | exact .load _ _ | with_reducible (refine .bind ?_ fun _ => ?_) | with_reducible (refine .map ?_) | split | dsimp only)
theorem StillS.sliceAt (t : TypeId) (v : Value) (x y z : Option Value) : StillS P (Instr.sliceAt t v x y z) := by
  unfold Instr.sliceAt
  repeat' (first | exact .pure _ | exact .sliceBounds _ _ _ _ _ _ | exact .slice _ _ _ _ _ | exact .stuck _ | exact .unsupported _ | exact .boundsPanic _ _ _ _ | exact .runtimePanic _ | exact .sizeOf _ | exact .underlying _ | exact .typeInfo _ | exact .sureAddr _ | exact .asIntOf _ | exact .asAddr _ | exact .program | exact .shape _ | exact .getObj _ | exact .load _ _ | with_reducible (refine .bind ?_ fun _ => ?_) | with_reducible (refine .map ?_) | split | dsimp only)
theorem StillS.noView (a : Addr) : StillS P (Go.noView a) := by
  unfold Go.noView
  repeat' (first | exact .pure _ | exact .stuck _ | exact .unsupported _ | exact .boundsPanic _ _ _ _ | exact .runtimePanic _ | exact .sizeOf _ | exact .underlying _ | exact .typeInfo _ | exact .sureAddr _ | exact .asIntOf _ | exact .asAddr _ | exact .asAgg _ | exact .asBool _ | exact .program | exact .shape _ | exact .getObj _ | exact .load _ _ | exact .viewAt _ | with_reducible (refine .bind ?_ fun _ => ?_) | with_reducible (refine .map ?_) | split | dsimp only)
theorem StillS.byteOf (a : Addr) : StillS P (Go.byteOf a) := by
  unfold Go.byteOf
  repeat' (first | exact .pure _ | exact .stuck _ | exact .unsupported _ | exact .boundsPanic _ _ _ _ | exact .runtimePanic _ | exact .sizeOf _ | exact .underlying _ | exact .typeInfo _ | exact .sureAddr _ | exact .asIntOf _ | exact .asAddr _ | exact .asAgg _ | exact .asBool _ | exact .program | exact .shape _ | exact .getObj _ | exact .load _ _ | exact .noView _ | with_reducible (refine .bind ?_ fun _ => ?_) | with_reducible (refine .map ?_) | split | dsimp only)
theorem StillS.partAt (a : Addr) (i j : Nat) : StillS P (Go.partAt a i j) := by
  unfold Go.partAt
  repeat' (first | exact .pure _ | exact .stuck _ | exact .unsupported _ | exact .boundsPanic _ _ _ _ | exact .runtimePanic _ | exact .sizeOf _ | exact .underlying _ | exact .typeInfo _ | exact .sureAddr _ | exact .asIntOf _ | exact .asAddr _ | exact .asAgg _ | exact .asBool _ | exact .program | exact .shape _ | exact .getObj _ | exact .load _ _ | exact .byteOf _ | with_reducible (refine .bind ?_ fun _ => ?_) | with_reducible (refine .map ?_) | split | dsimp only)
theorem StillS.fieldPlace (a : Addr) (f : Field) : StillS P (Go.fieldPlace a f) := by
  unfold Go.fieldPlace
  repeat' (first | exact .pure _ | exact .stuck _ | exact .unsupported _ | exact .boundsPanic _ _ _ _ | exact .runtimePanic _ | exact .sizeOf _ | exact .underlying _ | exact .typeInfo _ | exact .sureAddr _ | exact .asIntOf _ | exact .asAddr _ | exact .asAgg _ | exact .asBool _ | exact .program | exact .shape _ | exact .getObj _ | exact .load _ _ | exact .partAt _ _ _ | with_reducible (refine .bind ?_ fun _ => ?_) | with_reducible (refine .map ?_) | split | dsimp only)
theorem StillS.fieldAt (t : TypeId) (v : Value) (i : Nat) : StillS P (Instr.fieldAt t v i) := by
  unfold Instr.fieldAt
  repeat' (first | exact .pure _ | exact .stuck _ | exact .unsupported _ | exact .boundsPanic _ _ _ _ | exact .runtimePanic _ | exact .sizeOf _ | exact .underlying _ | exact .typeInfo _ | exact .sureAddr _ | exact .asIntOf _ | exact .asAddr _ | exact .asAgg _ | exact .asBool _ | exact .program | exact .shape _ | exact .getObj _ | exact .load _ _ | exact .fieldPlace _ _ | with_reducible (refine .bind ?_ fun _ => ?_) | with_reducible (refine .map ?_) | split | dsimp only)
theorem StillS.loadAt (t : TypeId) (v : Value) : StillS P (Instr.loadAt t v) := by
  unfold Instr.loadAt
  repeat' (first | exact .pure _ | exact .stuck _ | exact .unsupported _ | exact .boundsPanic _ _ _ _ | exact .runtimePanic _ | exact .sizeOf _ | exact .underlying _ | exact .typeInfo _ | exact .sureAddr _ | exact .asIntOf _ | exact .asAddr _ | exact .asAgg _ | exact .asBool _ | exact .program | exact .shape _ | exact .getObj _ | exact .load _ _ | exact .loadVar _ _ | with_reducible (refine .bind ?_ fun _ => ?_) | with_reducible (refine .map ?_) | split | dsimp only)
theorem StillS.field (t : TypeId) (v : Value) (i : Nat) : StillS P (Instr.field t v i) := by
  unfold Instr.field
  repeat' (first | exact .pure _ | exact .stuck _ | exact .unsupported _ | exact .boundsPanic _ _ _ _ | exact .runtimePanic _ | exact .sizeOf _ | exact .underlying _ | exact .typeInfo _ | exact .sureAddr _ | exact .asIntOf _ | exact .asAddr _ | exact .asAgg _ | exact .asBool _ | exact .program | exact .shape _ | exact .getObj _ | exact .load _ _ | exact .part _ _ _ | with_reducible (refine .bind ?_ fun _ => ?_) | with_reducible (refine .map ?_) | split | dsimp only)
theorem StillS.index (t : TypeId) (v i : Value) : StillS P (Instr.index t v i) := by
  unfold Instr.index
  repeat' (first | exact .pure _ | exact .stuck _ | exact .unsupported _ | exact .boundsPanic _ _ _ _ | exact .runtimePanic _ | exact .sizeOf _ | exact .underlying _ | exact .typeInfo _ | exact .sureAddr _ | exact .asIntOf _ | exact .asAddr _ | exact .asAgg _ | exact .asBool _ | exact .program | exact .shape _ | exact .getObj _ | exact .load _ _ | exact .part _ _ _ | with_reducible (refine .bind ?_ fun _ => ?_) | with_reducible (refine .map ?_) | split | dsimp only)
theorem StillS.extract (v : Value) (i : Nat) : StillS P (Instr.extract v i) := by
  unfold Instr.extract
  repeat' (first | exact .pure _ | exact .stuck _ | exact .unsupported _ | exact .boundsPanic _ _ _ _ | exact .runtimePanic _ | exact .sizeOf _ | exact .underlying _ | exact .typeInfo _ | exact .sureAddr _ | exact .asIntOf _ | exact .asAddr _ | exact .asAgg _ | exact .asBool _ | exact .program | exact .shape _ | exact .getObj _ | exact .load _ _ | with_reducible (refine .bind ?_ fun _ => ?_) | with_reducible (refine .map ?_) | split | dsimp only)
theorem StillS.intArith (o : BinOp) (k : IntKind) (x y : Int) : StillS P (Op.intArith o k x y) := by
  unfold Op.intArith
  repeat' (first | exact .pure _ | exact .stuck _ | exact .unsupported _ | exact .boundsPanic _ _ _ _ | exact .runtimePanic _ | exact .sizeOf _ | exact .underlying _ | exact .typeInfo _ | exact .sureAddr _ | exact .asIntOf _ | exact .asAddr _ | exact .asAgg _ | exact .asBool _ | exact .program | exact .shape _ | exact .getObj _ | exact .load _ _ | with_reducible (refine .bind ?_ fun _ => ?_) | with_reducible (refine .map ?_) | split | dsimp only)
theorem StillS.intDiv (o : BinOp) (k : IntKind) (x y : Int) : StillS P (Op.intDiv o k x y) := by
  unfold Op.intDiv
  repeat' (first | exact .pure _ | exact .stuck _ | exact .unsupported _ | exact .boundsPanic _ _ _ _ | exact .runtimePanic _ | exact .sizeOf _ | exact .underlying _ | exact .typeInfo _ | exact .sureAddr _ | exact .asIntOf _ | exact .asAddr _ | exact .asAgg _ | exact .asBool _ | exact .program | exact .shape _ | exact .getObj _ | exact .load _ _ | with_reducible (refine .bind ?_ fun _ => ?_) | with_reducible (refine .map ?_) | split | dsimp only)
theorem StillS.intCmp (o : BinOp) (x y : Int) : StillS P (Op.intCmp o x y) := by
  unfold Op.intCmp
  repeat' (first | exact .pure _ | exact .stuck _ | exact .unsupported _ | exact .boundsPanic _ _ _ _ | exact .runtimePanic _ | exact .sizeOf _ | exact .underlying _ | exact .typeInfo _ | exact .sureAddr _ | exact .asIntOf _ | exact .asAddr _ | exact .asAgg _ | exact .asBool _ | exact .program | exact .shape _ | exact .getObj _ | exact .load _ _ | with_reducible (refine .bind ?_ fun _ => ?_) | with_reducible (refine .map ?_) | split | dsimp only)
theorem StillS.shift (o : BinOp) (k : IntKind) (x : Int) (j : IntKind) (y : Int) : StillS P (Op.shift o k x j y) := by
  unfold Op.shift
  repeat' (first | exact .pure _ | exact .stuck _ | exact .unsupported _ | exact .boundsPanic _ _ _ _ | exact .runtimePanic _ | exact .sizeOf _ | exact .underlying _ | exact .typeInfo _ | exact .sureAddr _ | exact .asIntOf _ | exact .asAddr _ | exact .asAgg _ | exact .asBool _ | exact .program | exact .shape _ | exact .getObj _ | exact .load _ _ | with_reducible (refine .bind ?_ fun _ => ?_) | with_reducible (refine .map ?_) | split | dsimp only)
theorem StillS.stringOp (o : BinOp) (x y : ByteArray) : StillS P (Op.stringOp o x y) := by
  unfold Op.stringOp
  repeat' (first | exact .pure _ | exact .stuck _ | exact .unsupported _ | exact .boundsPanic _ _ _ _ | exact .runtimePanic _ | exact .sizeOf _ | exact .underlying _ | exact .typeInfo _ | exact .sureAddr _ | exact .asIntOf _ | exact .asAddr _ | exact .asAgg _ | exact .asBool _ | exact .program | exact .shape _ | exact .getObj _ | exact .load _ _ | with_reducible (refine .bind ?_ fun _ => ?_) | with_reducible (refine .map ?_) | split | dsimp only)
theorem StillS.intBits (o : BinOp) (k : IntKind) (x y : Int) : StillS P (Op.intBits o k x y) := by
  unfold Op.intBits
  repeat' (first | exact .pure _ | exact .stuck _ | split | dsimp only)
theorem StillS.floatCmp (o : BinOp) (k : FloatKind) (x y : Nat) : StillS P (Op.floatCmp o k x y) := by
  unfold Op.floatCmp
  repeat' (first | exact .pure _ | exact .stuck _ | exact .unsupported _ | exact .boundsPanic _ _ _ _ | exact .runtimePanic _ | exact .sizeOf _ | exact .underlying _ | exact .typeInfo _ | exact .sureAddr _ | exact .asIntOf _ | exact .asAddr _ | exact .asAgg _ | exact .asBool _ | exact .program | exact .shape _ | exact .getObj _ | exact .load _ _ | with_reducible (refine .bind ?_ fun _ => ?_) | with_reducible (refine .map ?_) | split | dsimp only)
theorem StillS.unary (o : UnOp) (v : Value) : StillS P (Op.unary o v) := by
  unfold Op.unary
  repeat' (first | exact .pure _ | exact .stuck _ | exact .unsupported _ | exact .boundsPanic _ _ _ _ | exact .runtimePanic _ | exact .sizeOf _ | exact .underlying _ | exact .typeInfo _ | exact .sureAddr _ | exact .asIntOf _ | exact .asAddr _ | exact .asAgg _ | exact .asBool _ | exact .program | exact .shape _ | exact .getObj _ | exact .load _ _ | exact .intArith _ _ _ _ | exact .intBits _ _ _ _ | with_reducible (refine .bind ?_ fun _ => ?_) | with_reducible (refine .map ?_) | split | dsimp only)
theorem StillS.len (a : Array TypeId) (t : TypeId) (v : Array Value) : StillS P (Builtin.len_ a t v) := by
  unfold Builtin.len_
  repeat' (first | exact .pure _ | exact .stuck _ | exact .unsupported _ | exact .boundsPanic _ _ _ _ | exact .runtimePanic _ | exact .sizeOf _ | exact .underlying _ | exact .typeInfo _ | exact .sureAddr _ | exact .asIntOf _ | exact .asAddr _ | exact .asAgg _ | exact .asBool _ | exact .program | exact .shape _ | exact .getObj _ | exact .load _ _ | with_reducible (refine .bind ?_ fun _ => ?_) | with_reducible (refine .map ?_) | split | dsimp only)
theorem StillS.numberAt (r : Nat) : StillS P (Go.numberAt r) := by
  unfold Go.numberAt
  repeat' (first | exact .pure _ | exact .stuck _ | exact .unsupported _ | exact .boundsPanic _ _ _ _ | exact .runtimePanic _ | exact .sizeOf _ | exact .underlying _ | exact .typeInfo _ | exact .sureAddr _ | exact .asIntOf _ | exact .asAddr _ | exact .asAgg _ | exact .asBool _ | exact .program | exact .shape _ | exact .getObj _ | exact .load _ _ | with_reducible (refine .bind ?_ fun _ => ?_) | with_reducible (refine .map ?_) | split | dsimp only)
theorem StillS.behindNumber (a : Addr) : StillS P (Go.behindNumber a) := by
  unfold Go.behindNumber
  repeat' (first | exact .pure _ | exact .stuck _ | exact .unsupported _ | exact .boundsPanic _ _ _ _ | exact .runtimePanic _ | exact .sizeOf _ | exact .underlying _ | exact .typeInfo _ | exact .sureAddr _ | exact .asIntOf _ | exact .asAddr _ | exact .asAgg _ | exact .asBool _ | exact .program | exact .shape _ | exact .getObj _ | exact .load _ _ | exact .numberAt _ | with_reducible (refine .bind ?_ fun _ => ?_) | with_reducible (refine .map ?_) | split | dsimp only)
theorem StillS.twoPlaces (a b : Addr) : StillS P (Op.twoPlaces a b) := by
  unfold Op.twoPlaces
  repeat' (first | exact .pure _ | exact .stuck _ | exact .unsupported _ | exact .boundsPanic _ _ _ _ | exact .runtimePanic _ | exact .sizeOf _ | exact .underlying _ | exact .typeInfo _ | exact .sureAddr _ | exact .asIntOf _ | exact .asAddr _ | exact .asAgg _ | exact .asBool _ | exact .program | exact .shape _ | exact .getObj _ | exact .load _ _ | exact .byteOf _ | with_reducible (refine .bind ?_ fun _ => ?_) | with_reducible (refine .map ?_) | split | dsimp only)
theorem StillS.addrSub (k : IntKind) (a b : Addr) : StillS P (Op.addrSub k a b) := by
  unfold Op.addrSub
  repeat' (first | exact .pure _ | exact .stuck _ | exact .unsupported _ | exact .boundsPanic _ _ _ _ | exact .runtimePanic _ | exact .sizeOf _ | exact .underlying _ | exact .typeInfo _ | exact .sureAddr _ | exact .asIntOf _ | exact .asAddr _ | exact .asAgg _ | exact .asBool _ | exact .program | exact .shape _ | exact .getObj _ | exact .load _ _ | exact .twoPlaces _ _ | with_reducible (refine .bind ?_ fun _ => ?_) | with_reducible (refine .map ?_) | split | dsimp only)
theorem StillS.addrCmp (o : BinOp) (a b : Addr) : StillS P (Op.addrCmp o a b) := by
  unfold Op.addrCmp
  repeat' (first | exact .pure _ | exact .stuck _ | exact .unsupported _ | exact .boundsPanic _ _ _ _ | exact .runtimePanic _ | exact .sizeOf _ | exact .underlying _ | exact .typeInfo _ | exact .sureAddr _ | exact .asIntOf _ | exact .asAddr _ | exact .asAgg _ | exact .asBool _ | exact .program | exact .shape _ | exact .getObj _ | exact .load _ _ | exact .twoPlaces _ _ | with_reducible (refine .bind ?_ fun _ => ?_) | with_reducible (refine .map ?_) | split | dsimp only)
theorem StillS.addrMod (k : IntKind) (a : Addr) (n : Int) : StillS P (Op.addrMod k a n) := by
  unfold Op.addrMod
  repeat' (first | exact .pure _ | exact .stuck _ | exact .unsupported _ | exact .boundsPanic _ _ _ _ | exact .runtimePanic _ | exact .sizeOf _ | exact .underlying _ | exact .typeInfo _ | exact .sureAddr _ | exact .asIntOf _ | exact .asAddr _ | exact .asAgg _ | exact .asBool _ | exact .program | exact .shape _ | exact .getObj _ | exact .load _ _ | exact .byteOf _ | with_reducible (refine .bind ?_ fun _ => ?_) | with_reducible (refine .map ?_) | split | dsimp only)
theorem StillS.asInt (v : Value) : StillS P (Go.asInt v) := by
  unfold Go.asInt
  repeat' (first | exact .asIntOf _ | exact .pure _ | exact .stuck _ | exact .unsupported _ | with_reducible (refine .bind ?_ fun _ => ?_) | with_reducible (refine .map ?_) | split | dsimp only)
theorem StillS.unsafeAdd2 (a : Array TypeId) (t : TypeId) (x y : Value) : StillS P (Builtin.unsafeAdd_ a t #[x, y]) := by
  cases x
  case pointer p =>
    refine (StillS.bind (.asInt _) fun n => ?_ : StillS P (Go.asInt y >>= _))
    repeat' (first | exact .pure _ | exact .stuck _ | exact .unsupported _ | exact .boundsPanic _ _ _ _ | exact .runtimePanic _ | exact .sizeOf _ | exact .underlying _ | exact .typeInfo _ | exact .asIntOf _ | exact .asInt _ | exact .viewAt _ | exact .program | exact .shape _ | exact .getObj _ | with_reducible (refine .bind ?_ fun _ => ?_) | with_reducible (refine .map ?_) | split | dsimp only)
  all_goals exact (StillS.stuck _ : StillS P (Go.stuck _))

/-- No pointer, no aggregate. -/
def scalar : Value → Bool
  | .int _ _ | .bool _ | .string _ => true
  | _ => false
def StillV (P : Program) (s : Sem Value) : Prop := ∀ w v w', s.run P w = .ok v w' → scalar v = true → w' = w
theorem StillS.v {s : Sem Value} (h : StillS P s) : StillV P s := fun w v w' e _ => h w v w' e
theorem StillV.bind {s : Sem α} {f : α → Sem Value} (hs : StillS P s) (hf : ∀ a, StillV P (f a)) : StillV P (s >>= f) := fun w b w' h hv => by
  rw [Sem.run_bind] at h
  cases hr : s.run P w with
  | ok a w1 => rw [hr] at h; simp only [Result.andThen_ok] at h; rw [hf a _ _ _ h hv, hs _ _ _ hr]
  | halt x w1 => rw [hr] at h; simp [Result.andThen] at h
theorem StillV.asNumber (a : Addr) (b : Bool) : StillV P (Go.asNumber a b) := fun w v w' e hv => by
  unfold Go.asNumber at e
  rw [Sem.run_bind] at e
  simp [newObj, Sem.run, Result.andThen, Sem.run_pure] at e
  rw [← e.1] at hv; simp [scalar] at hv
theorem StillV.movedNumber (t : TypeId) (x y : Value) : StillV P (Go.movedNumber t x y) := by
  unfold Go.movedNumber
  repeat' (first | exact .asNumber _ _ | exact (StillS.unsafeAdd2 _ _ _ _).v | exact (StillS.pure _).v | exact (StillS.unsupported _).v | exact .underlying _ | exact .behindNumber _ | exact .unsafeAdd2 _ _ _ _ | exact .pure _ | exact .unsupported _ | with_reducible (refine StillV.bind ?_ fun _ => ?_) | split | dsimp only)
theorem StillV.movedPointer (t : TypeId) (x y : Value) : StillV P (Go.movedPointer t x y) := by
  unfold Go.movedPointer
  repeat' (first | exact (StillS.unsafeAdd2 _ _ _ _).v | exact (StillS.unsupported _).v | exact .numberAt _ | exact .unsupported _ | exact .pure _ | with_reducible (refine StillV.bind ?_ fun _ => ?_) | split | dsimp only)
theorem StillS.forInList {γ : Type} (f : γ → β → Sem (ForInStep β)) (h : ∀ x b, StillS P (f x b)) : ∀ (l : List γ) (b : β), StillS P (forIn l b f)
  | [], b => by rw [List.forIn_nil]; exact .pure _
  | x :: l, b => by
    rw [List.forIn_cons]
    refine .bind (h x b) fun r => ?_
    split
    · exact .pure _
    · exact StillS.forInList f h l _
theorem StillS.forInRange (r : Std.Legacy.Range) (f : Nat → β → Sem (ForInStep β)) (b : β) (h : ∀ x b, StillS P (f x b)) : StillS P (forIn r b f) := by
  rw [Std.Legacy.Range.forIn_eq_forIn_range']; exact .forInList f h _ _
theorem StillS.forInArray {γ : Type} (l : Array γ) (f : γ → β → Sem (ForInStep β)) (b : β) (h : ∀ x ∈ l, ∀ b, StillS P (f x b)) : StillS P (forIn l b f) := by
  rw [← Array.forIn_toList]
  have : ∀ (k : List γ) (b : β), (∀ x ∈ k, x ∈ l) → StillS P (forIn k b f) := by
    intro k
    induction k with
    | nil => intro b _; rw [List.forIn_nil]; exact .pure _
    | cons x k ih =>
      intro b hk
      rw [List.forIn_cons]
      refine .bind (h x (hk x (by simp)) b) fun r => ?_
      split
      · exact .pure _
      · exact ih _ fun y hy => hk y (by simp [hy])
  exact this l.toList b fun x hx => by simpa using hx

/-- A type whose values are compared without a look at memory. -/
def plainD (P : Program) : Nat → TypeId → Bool
  | 0, _ => false
  | d + 1, t => match P.underlying t with
    | some (.int _) | some .bool | some .string => true
    | some (.array _ e) => plainD P d e
    | some (.struct fs) => fs.all fun f => plainD P d f.type
    | _ => false
def plainT (P : Program) (t : TypeId) : Bool := plainD P 6 t
theorem StillS.equalIn : ∀ (n d : Nat) (t : TypeId) (x y : Value), plainD P d t = true → StillS P (Op.equalIn n t x y)
  | 0, _, _, _, _, _ => by unfold Op.equalIn; exact .unsupported _
  | n + 1, 0, _, _, _, h => by cases h
  | n + 1, d + 1, t, x, y, h => by
    unfold Op.equalIn
    intro w a w' e
    rw [Sem.run_bind] at e
    unfold plainD at h
    have hu : ∀ T, P.underlying t = some T → (Go.underlying t).run P w = .ok T w := fun T h => run_underlying h w
    split at h
    all_goals first | (cases h; done) | skip
    all_goals
      rename_i hT
      rw [hu _ hT] at e
      simp only [Result.andThen_ok] at e
      revert e
      refine fun e => (?_ : StillS P _) w a w' e
      repeat' (first | contradiction | exact .pure _ | exact .stuck _ | exact .unsupported _ | exact .behindNumber _ | exact .program | exact .byteOf _ | exact .typeInfo _ | exact .sizeOf _ | exact .part _ _ _ | (refine StillS.equalIn n d _ _ _ ?_; exact h) | (refine StillS.forInRange _ _ _ fun _ _ => ?_) | (refine StillS.forInArray _ _ _ fun f hf _ => ?_; have hfd := Array.all_eq_true_iff_forall_mem.1 h f (by simpa using hf)) | (exact StillS.equalIn n d _ _ _ hfd) | with_reducible (refine .bind ?_ fun _ => ?_) | with_reducible (refine .map ?_) | split | dsimp only)
    case h_21.refine_2.refine_1.refine_2.refine_2.refine_1 =>
      have hh := ‹TypeDesc.array _ _ = TypeDesc.array _ _›
      cases hh
      exact StillS.equalIn n d _ _ _ h
    case h_20.refine_2.isFalse.refine_1 =>
      have hh := ‹TypeDesc.struct _ = TypeDesc.struct _›
      cases hh
      refine StillS.forInArray _ _ _ fun f hf _ => ?_
      have hfd := Array.all_eq_true_iff_forall_mem.1 h f hf
      repeat' (first | exact .pure _ | exact .part _ _ _ | (exact StillS.equalIn n d _ _ _ hfd) | with_reducible (refine .bind ?_ fun _ => ?_) | split)
theorem run_equal_plain (t : TypeId) (x y : Value) (ht : plainT P t = true) : StillS P (Op.equal t x y) := StillS.equalIn _ 6 t x y ht
theorem StillS.eqGuardIn : ∀ (n : Nat) (t : TypeId) (x y : Value), StillS P (Op.eqGuardIn n t x y)
  | 0, _, _, _ => by unfold Op.eqGuardIn; exact .unsupported _
  | n + 1, t, x, y => by
    unfold Op.eqGuardIn
    repeat' (first | exact .pure _ | exact .stuck _ | exact .unsupported _ | exact .underlying _ | exact .sizeOf _ | exact .part _ _ _ | exact StillS.eqGuardIn n _ _ _ | (refine StillS.forInRange _ _ _ fun _ _ => ?_) | (refine StillS.forInArray _ _ _ fun _ _ _ => ?_) | with_reducible (refine .bind ?_ fun _ => ?_) | with_reducible (refine .map ?_) | split | dsimp only)
theorem StillS.eqGuard (op : BinOp) (t : TypeId) (x y : Operand) (a b : Value) : StillS P (Go.eqGuard op t x y a b) := by
  unfold Go.eqGuard
  repeat' (first | exact .pure _ | exact .program | exact .eqGuardIn _ _ _ _ | exact .unsupported _ | with_reducible (refine .bind ?_ fun _ => ?_) | split | dsimp only)

/-- A comparison with nil. -/
def nilT (P : Program) (t : TypeId) : Bool := match P.underlying t with
  | some (.pointer _) | some (.slice _) | some (.interface _) => true
  | _ => false
def nilV : Value → Bool
  | .pointer none | .nilIface | .slice none _ _ => true
  | _ => false
def nilC : Operand → Bool
  | .const v => nilV v
  | _ => false
theorem StillS.equalNil (t : TypeId) (x y : Value) (ht : nilT P t = true) (h : nilV x = true ∨ nilV y = true) : StillS P (Op.equal t x y) := by
  unfold Op.equal Op.maxDepth
  show StillS P (Op.equalIn (9999 + 1) t x y)
  generalize 9999 = n
  unfold Op.equalIn
  intro w a w' e
  rw [Sem.run_bind] at e
  unfold nilT at ht
  have hu : ∀ T, P.underlying t = some T → (Go.underlying t).run P w = .ok T w := fun T h => run_underlying h w
  split at ht
  all_goals first | (cases ht; done) | skip
  all_goals
    rename_i hT
    rw [hu _ hT] at e
    simp only [Result.andThen_ok] at e
    revert e
    refine fun e => (?_ : StillS P _) w a w' e
    repeat' (first | contradiction | exact .pure _ | exact .stuck _ | exact .unsupported _ | (exfalso; rcases h with h | h <;> cases h; done) | split)

def NoScalar (P : Program) (s : Sem Value) : Prop := ∀ w v w', s.run P w = .ok v w' → scalar v = false
theorem NoScalar.v {s : Sem Value} (h : NoScalar P s) : StillV P s := fun w v w' e hv => by rw [h w v w' e] at hv; cases hv
theorem NoScalar.bind {s : Sem α} {f : α → Sem Value} (hf : ∀ a, NoScalar P (f a)) : NoScalar P (s >>= f) := fun w b w' h => by
  rw [Sem.run_bind] at h
  cases hr : s.run P w with
  | ok a w1 => rw [hr] at h; simp only [Result.andThen_ok] at h; exact hf a _ _ _ h
  | halt x w1 => rw [hr] at h; simp [Result.andThen] at h
theorem NoScalar.pure {v : Value} (h : scalar v = false) : NoScalar P (Pure.pure v) := fun w b w' e => by simp [Sem.run_pure] at e; rw [← e.1]; exact h
theorem NoScalar.stuck (s : String) : NoScalar P (Go.stuck s) := fun w b w' e => by simp [Go.stuck] at e
theorem NoScalar.floatArith (op : BinOp) (k : FloatKind) (a b : Nat) : NoScalar P (Op.floatArith op k a b) := by
  unfold Op.floatArith
  repeat' (first | exact .pure rfl | exact .stuck _ | with_reducible (refine .bind fun _ => ?_) | split | dsimp only)
theorem StillS.cmp (op : BinOp) (k : FloatKind) (x y : Nat) : StillS P (Op.Complex.cmp op k x y) := .bind (.floatCmp _ _ _ _) fun _ => .asBool _
theorem StillV.complexOp (op : BinOp) (k : FloatKind) (a b c d : Nat) : StillV P (Op.complexOp op k a b c d) := by
  unfold Op.complexOp
  repeat' (first | exact (NoScalar.pure rfl).v | exact (StillS.pure _).v | exact (StillS.stuck _).v | exact .cmp _ _ _ _ | exact (NoScalar.bind fun _ => .bind fun _ => .pure rfl).v | exact (NoScalar.bind fun _ => .bind fun _ => .bind fun _ => .bind fun _ => .bind fun _ => .bind fun _ => .bind fun _ => .pure rfl).v | with_reducible (refine StillV.bind ?_ fun _ => ?_) | split | dsimp only)
theorem StillV.binOp (op : BinOp) (t : TypeId) (x y : Value) (h : op = .eql ∨ op = .neq → StillS P (Op.equal t x y)) : StillV P (Go.binOp op t x y) := by
  unfold Go.binOp
  split
  all_goals repeat' (first | exact (StillS.shift _ _ _ _ _).v | exact (StillS.stuck _).v | exact (StillS.intArith _ _ _ _).v | exact (StillS.intDiv _ _ _ _).v | exact (StillS.intBits _ _ _ _).v | exact (StillS.intCmp _ _ _).v | exact (NoScalar.floatArith _ _ _ _).v | exact (StillS.floatCmp _ _ _ _).v | exact StillV.complexOp _ _ _ _ _ _ | exact (StillS.stringOp _ _ _).v | exact StillV.movedPointer _ _ _ | exact StillV.movedNumber _ _ _ | exact (StillS.unsupported _).v | exact (StillS.addrSub _ _ _).v | exact (StillS.addrCmp _ _ _).v | exact (StillS.addrMod _ _ _).v | exact (StillS.pure _).v | exact .behindNumber _ | exact .underlying _ | exact (h (.inl rfl)) | exact (h (.inr rfl)) | with_reducible (refine StillV.bind ?_ fun _ => ?_) | split | dsimp only)

def intT (P : Program) (t : TypeId) : Bool := match P.underlying t with | some (.int _) => true | _ => false

theorem StillS.convertInt (s d : TypeId) (k : IntKind) (n : Int) (hd : intT P d = true) : StillS P (Go.convert s d (.int k n)) := by
  unfold intT at hd
  split at hd <;> first | (cases hd; done) | skip
  rename_i _ k2 h2
  intro w a w' e
  unfold Go.convert at e
  rw [Sem.run_bind] at e
  cases hs : (Go.underlying s).run P w with
  | halt x w1 => rw [hs] at e; simp [Result.andThen] at e
  | ok T w1 =>
    have hw1 := StillS.underlying (P := P) s _ _ _ hs
    subst hw1
    rw [hs] at e
    simp only [Sem.run_bind, run_underlying h2, Result.andThen_ok] at e
    simp [Conv.intToInt, Sem.run_pure] at e
    exact e.2.symm

/-- The operations of a region's head. -/
def headK (P : Program) (o : Oper) : Bool := match o.op with
  | .move _ | .assign _ | .pick _ _ _ | .load _ _ | .unOp _ _ _ | .field _ _ _ | .fieldAddr _ _ _ | .index _ _ _ | .indexAddr _ _ _ | .slice _ _ _ _ _ | .extract _ _ | .nilCheck _ => true
  | .binOp op t x y _ => (op != .eql && op != .neq) || plainT P t || (nilT P t && (nilC x || nilC y))
  | .convert _ d x => intT P d && (match x with | .tmp _ => true | _ => false)
  | .call c => match c.callee with | .builtin .len => true | _ => false
  | _ => false
/-- What must be seen of its value. -/
def chkV (o : Oper) (ρ : Operand → Value) (v : Value) : Bool := match o.op with
  | .binOp .. => scalar v
  | .convert _ _ x => match ρ x with | .int _ _ => true | _ => false
  | .nilCheck _ => match v with | .pointer _ => true | _ => false
  | _ => true

theorem vmap (s : Sem Value) {w w' : World} {n : Next} (h : (do pure (Next.value (← s)) : Sem Next).run P w = .ok n w') : ∃ v, n = .value v ∧ s.run P w = .ok v w' := by
  rw [Sem.run_bind] at h
  cases hr : s.run P w with
  | ok a w1 => rw [hr] at h; simp [Result.andThen_ok, Sem.run_pure] at h; exact ⟨a, h.1.symm, by rw [h.2]⟩
  | halt x w1 => rw [hr] at h; simp [Result.andThen] at h
theorem vstill {s : Sem Value} (hs : StillS P s) {w w' : World} {n : Next} {p : Value → Prop} (h : (do pure (Next.value (← s)) : Sem Next).run P w = .ok n w') : ∃ v, n = .value v ∧ (p v → w' = w) := by
  obtain ⟨v, h1, h2⟩ := vmap s h
  exact ⟨v, h1, fun _ => hs _ _ _ h2⟩

theorem head_run (o : Oper) (ρ : Operand → Value) (hρ : ∀ v, ρ (.const v) = v) (w w' : World) (n : Next) (hk : headK P o = true) (h : (execOp ρ o).run P w = .ok n w') :
    ∃ v, n = .value v ∧ (chkV o ρ v = true → w' = w) := by
  unfold headK at hk
  unfold execOp at h
  unfold chkV
  split at hk
  all_goals first | (cases hk; done) | skip
  all_goals (rename_i ho; simp only [ho] at h ⊢)
  case h_1 => simp [Sem.run_pure] at h; exact ⟨_, h.1.symm, fun _ => h.2.symm⟩
  case h_2 => simp [Sem.run_pure] at h; exact ⟨_, h.1.symm, fun _ => h.2.symm⟩
  case h_3 =>
    obtain ⟨v, h1, h2⟩ := vmap (P := P) (Go.asBool (ρ _) >>= fun b => Pure.pure (if b then ρ _ else ρ _)) (by simpa using h)
    exact ⟨v, h1, fun _ => (StillS.bind (.asBool _) fun _ => .pure _) _ _ _ h2⟩
  case h_4 => exact vstill (.loadAt _ _) h
  case h_5 => exact vstill (.unary _ _) h
  case h_6 => exact vstill (.field _ _ _) h
  case h_7 => exact vstill (.fieldAt _ _ _) h
  case h_8 => exact vstill (.index _ _ _) h
  case h_9 => exact vstill (.indexAt _ _ _) h
  case h_10 => exact vstill (.sliceAt _ _ _ _ _) h
  case h_11 => exact vstill (.extract _ _) h
  case h_12 =>
    split at h
    · exact absurd h (NoOk.runtimePanic _ _ _ _)
    · exact absurd h (NoOk.runtimePanic _ _ _ _)
    · exact absurd h (NoOk.runtimePanic _ _ _ _)
    · split at h
      · exact absurd h (NoOk.runtimePanic _ _ _ _)
      · rw [Sem.run_bind] at h
        cases hr : (Go.program).run P w with
        | halt x w1 => rw [hr] at h; simp [Result.andThen] at h
        | ok p w1 =>
          rw [hr] at h; simp only [Result.andThen_ok] at h
          rw [Sem.run_bind] at h
          generalize (nilAhead _ _ _ _ : Sem (Option Bool)).run P w1 = r at h
          cases r with
          | halt x w2 => simp [Result.andThen] at h
          | ok b w2 =>
            simp only [Result.andThen_ok] at h
            split at h
            · rw [Sem.run_bind] at h; simp [Go.unsupported, Result.andThen] at h
            · simp [Sem.run_pure] at h; exact ⟨_, h.1.symm, fun hc => by simp at hc⟩
      · simp [Sem.run_pure] at h; exact ⟨_, h.1.symm, fun hc => by simp at hc⟩
    · simp [Sem.run_pure] at h; exact ⟨_, h.1.symm, fun _ => h.2.symm⟩
  case h_13 op t x y _ =>
    obtain ⟨v, h1, h2⟩ := vmap (P := P) (Go.eqGuard op t x y (ρ x) (ρ y) >>= fun _ => Go.binOp op t (ρ x) (ρ y)) (by simpa using h)
    have hh : op = .eql ∨ op = .neq → StillS P (Op.equal t (ρ x) (ρ y)) := by
      intro ho
      simp only [Bool.or_eq_true, Bool.and_eq_true] at hk
      rcases hk with (hk | hk) | hk
      · rcases ho with rfl | rfl <;> simp at hk
      · exact run_equal_plain _ _ _ hk
      · refine StillS.equalNil _ _ _ hk.1 (hk.2.imp (fun h => ?_) fun h => ?_)
        · cases x <;> first | (rw [hρ]; exact h) | cases h
        · cases y <;> first | (rw [hρ]; exact h) | cases h
    exact ⟨v, h1, fun hc => StillV.bind (.eqGuard _ _ _ _ _ _) (fun _ => .binOp _ _ _ _ hh) _ _ _ h2 hc⟩
  case h_14 s d x =>
    simp only [Bool.and_eq_true] at hk
    obtain ⟨v, h1, h2⟩ := vmap (P := P) (Go.convert s d (ρ x)) h
    refine ⟨v, h1, fun hc => ?_⟩
    cases hx : ρ x <;> rw [hx] at hc h2 <;> first | (cases hc; done) | skip
    exact StillS.convertInt _ _ _ _ hk.1 _ _ _ h2
  case h_15 =>
    rename_i c _
    split at hk
    · rename_i hc
      simp only [resolve, hc] at h
      rw [Sem.run_bind] at h
      simp only [Sem.run_pure, Result.andThen_ok, invoke, builtin] at h
      exact vstill (.len _ _ _) h
    · cases hk

end Go.Proofs.Ytnbjpilanjngmaa.XS
