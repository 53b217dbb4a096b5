/- Regions that draw their order: what reckons alone is done first, where one likes; the rest comes one by one. -/
import Derived.Test.YtnbjpilanjngmaaReg3
namespace Go.Proofs.Ytnbjpilanjngmaa.XS
open Go

section
variable {P : Program} {ops : Array Oper}

theorem wp_region_flex {id : Nat} {Q : Exit → Act → World → Prop} {a : Act} {w : World} (n : Nat) (hm : P.follows .mixedOrders = true) (hn : ops.size = n)
    (h : wpAny P .any ops (Qt fun a w => Q .normal a w) n (Array.replicate n false) a w.drew) : (Code.region id ops true).wp P Q a w := by
  subst hn
  exact wp_region_any hm (wpAny_Qt (fun _ _ h => h) _ _ _ _ h)
def anyB (ops : Array Oper) (l l' : Array Bool) (i : Nat) : Bool :=
  Region.noSelect ops && Region.free .any ops l i && (Region.ready .any ops l).contains i && (l.setIfInBounds i true == l')
/-- An operation that reckons alone. -/
theorem flex_pure {R : Act → World → Prop} (i : Nat) {oi : Oper} (v : Value) {fuel : Nat} {l : Array Bool} {a : Act} {w : World} (l' : Array Bool) (hi : ops[i]? = some oi) (hc : anyB ops l l' i = true)
    (hg : Region.wanted oi (yielded ops a.tmps) = true) (hy : ∀ w, (execOp a.eval oi).run P w = .ok (.value v) w)
    (h : wpAny P .any ops (Qt R) fuel l' (a.put oi.dst v) w) : wpAny P .any ops (Qt R) (fuel + 1) l a w := by
  simp only [anyB, Bool.and_eq_true, beq_iff_eq] at hc
  obtain ⟨⟨⟨h1, h2⟩, h3⟩, h6⟩ := hc
  subst h6
  exact wpAny_take hi h1 h2 h3 (fun _ _ _ h => h) (.inl ⟨hg, hy⟩) h
/-- An operation whose guard says no. -/
theorem flex_skip {R : Act → World → Prop} (i : Nat) {oi : Oper} {fuel : Nat} {l : Array Bool} {a : Act} {w : World} (l' : Array Bool) (hi : ops[i]? = some oi) (hc : anyB ops l l' i = true)
    (hg : Region.wanted oi (yielded ops a.tmps) = false) (h : wpAny P .any ops (Qt R) fuel l' (a.put oi.dst undef) w) : wpAny P .any ops (Qt R) (fuel + 1) l a w := by
  simp only [anyB, Bool.and_eq_true, beq_iff_eq] at hc
  obtain ⟨⟨⟨h1, h2⟩, h3⟩, h6⟩ := hc
  subst h6
  exact wpAny_take hi h1 h2 h3 (fun _ _ _ h => h) (.inr ⟨hg, rfl⟩) h
def seqL (ops : Array Oper) : List Nat → Array Bool → Bool
  | [], listed => (Region.ready .any ops listed).isEmpty
  | i :: r, listed => decide (Region.ready .any ops listed = [i]) && seqL ops r (listed.setIfInBounds i true)
/-- What is left comes one by one. -/
theorem flex_seq {Q' : Exit → Act → World → Prop} : ∀ (js : List Nat) {l : List Oper} {listed : Array Bool} {a : Act} {w : World}, js.map (ops[·]?) = l.map some →
    seqL ops js listed = true → wpList P ops Q' l a w → wpAny P .any ops Q' js.length listed a w
  | [], [], _, _, _, _, hB, h => ⟨by simpa [seqL] using hB, h⟩
  | [], _ :: _, _, _, _, e, _, _ => by simp at e
  | _ :: _, [], _, _, _, e, _, _ => by simp at e
  | k :: js, o :: l, listed, a, w, e, hB, h => by
    simp only [List.map_cons, List.cons.injEq] at e
    simp only [seqL, Bool.and_eq_true, decide_eq_true_eq] at hB
    refine ⟨fun h1 => (by rw [hB.1] at h1; cases h1), fun i hi => ?_⟩
    rw [hB.1] at hi
    have hik : i = k := by simpa using hi
    subst hik
    have hw : wpOp P ops Q' i (wpList P ops Q' l) a w := by unfold wpOp; simp only [e.1]; exact h
    exact wpOp_mono (fun a' w' h' => flex_seq js e.2 hB.2 h') hw
end
end Go.Proofs.Ytnbjpilanjngmaa.XS
