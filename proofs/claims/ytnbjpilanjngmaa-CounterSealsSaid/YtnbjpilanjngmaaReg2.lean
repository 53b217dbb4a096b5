/- Regions that draw their order and begin with a read of a variable that may as well come later. -/
import Derived.Test.YtnbjpilanjngmaaReg
namespace Go.Proofs.Ytnbjpilanjngmaa.XS
open Go

section
variable {P : Program} {ops : Array Oper} {md : Region.Mode}

theorem wp_Qt {o : Oper} {a : Act} {w : World} {K : Act → World → Prop} {R : Act → World → Prop} {Q : Exit → Act → World → Prop} (h : o.wp P a w K (Qt R)) : o.wp P a w K Q := by
  unfold Oper.wp at *
  generalize (execOp a.eval o).run P w = r at *
  cases r with
  | ok n w' =>
    cases n <;> simp only [Oper.upon] at h ⊢
    case value => exact h
    case skip => exact h
    case defer => exact h
    case enter => exact Calls.mono h (fun e w'' he => by cases e <;> first | exact he | exact he.elim | (obtain ⟨_, _, he⟩ := he; exact he.elim))
    all_goals exact h
  | halt x w' => cases x <;> simp only [Oper.upon] at h ⊢ <;> exact h.elim
theorem no_outgrown {R : Act → World → Prop} (h : LetsOut (Qt R)) : False := by obtain ⟨_, _, h⟩ := h; exact h
theorem wpOp_Qt {i : Nat} {a : Act} {w : World} {K : Act → World → Prop} {R : Act → World → Prop} {Q : Exit → Act → World → Prop} (h : wpOp P ops (Qt R) i K a w) : wpOp P ops Q i K a w := by
  unfold wpOp at *
  split
  · rename_i ho; simp only [ho] at h; exact h
  · rename_i o ho
    simp only [ho] at h
    split
    · rename_i hw
      simp only [hw, if_true] at h
      rcases h with h | ⟨_, h⟩
      · exact .inl (wp_Qt h)
      · exact (no_outgrown h).elim
    · rename_i hw; simp only [hw] at h; exact h
theorem wpAny_Qt {R : Act → World → Prop} {Q : Exit → Act → World → Prop} (hR : ∀ a w, R a w → Q .normal a w) : ∀ (f : Nat) (listed : Array Bool) (a : Act) (w : World), wpAny P md ops (Qt R) f listed a w → wpAny P md ops Q f listed a w
  | 0, _, _, _, h => ⟨h.1, hR _ _ h.2⟩
  | f + 1, _, _, _, h => ⟨fun e => hR _ _ (h.1 e), fun i hi => wpOp_Qt (wpOp_mono (fun a' w' h' => wpAny_Qt hR f _ a' w' h') (h.2 i hi))⟩

/-- A move, done ahead of an operation that has no part in it. -/
theorem wpOp_put {j : Nat} {oi oj : Oper} {x : Operand} {v : Value} (hx : oi.op = .move x) (hj : ops[j]? = some oj) (hap : oi.apart ops oj = true) (hsj : ∀ cs b, oj.op ≠ .select cs b)
    {K : Act → World → Prop} {R : Act → World → Prop} {a : Act} {w : World} (hv : a.eval x = v) (h : wpOp P ops (Qt R) j K (a.put oi.dst v) w) :
    wpOp P ops (Qt R) j (fun a' w' => a'.eval x = v ∧ K (a'.put oi.dst v) w') a w := by
  obtain ⟨h1, h2, h3⟩ := Oper.apart_spec hap
  have keep : ∀ (a : Act) (u : Value), a.eval x = v → (a.put oj.dst u).eval x = v := fun a u e => by
    rw [Act.eval_put (fun d hd hxd => h3 d hd ?_)]
    · exact e
    · subst hxd
      exact List.mem_append_left _ (List.mem_filterMap.2 ⟨.tmp d, by simp [hx, Op.operands], rfl⟩)
  unfold wpOp at *
  simp only [hj] at *
  rw [wanted_put oj a oi.dst v h1] at h
  split
  · rename_i hw
    simp only [hw, if_true] at h
    rcases h with h | ⟨_, h⟩
    · left
      unfold Oper.wp at *
      rw [execOp_put oj hsj a oi.dst v h1] at h
      generalize (execOp a.eval oj).run P w = r at *
      cases r with
      | ok n w' =>
        cases n <;> simp only [Oper.upon] at h ⊢
        case value u => exact ⟨keep a u hv, by rw [← Act.put_comm a v u h2]; exact h⟩
        case skip => exact ⟨keep a undef hv, by rw [← Act.put_comm a v undef h2]; exact h⟩
        case defer d =>
          refine ⟨keep { a with defers := d :: a.defers } undef hv, ?_⟩
          rw [← Act.put_comm { a with defers := d :: a.defers } v undef h2]
          have e : ({ a.put oi.dst v with defers := d :: (a.put oi.dst v).defers } : Act) = ({ a with defers := d :: a.defers } : Act).put oi.dst v := by
            cases oi.dst <;> rfl
          rw [← e]; exact h
        case enter f args =>
          refine Calls.mono h (fun e w'' he => ?_)
          cases e with
          | returned u => exact ⟨keep a u hv, by rw [← Act.put_comm a v u h2]; exact he⟩
          | panicked c => exact he.elim
          | outgrown => exact (no_outgrown he).elim
        case row => exact Rows.mono h (fun u _ he => ⟨keep a u hv, by rw [← Act.put_comm a v u h2]; exact he⟩)
        all_goals exact h.elim
      | halt x w' => cases x <;> simp only [Oper.upon] at h ⊢ <;> exact h.elim
    · exact (no_outgrown h).elim
  · rename_i hw
    simp only [hw] at h
    exact ⟨keep a undef hv, by rw [← Act.put_comm a v undef h2]; exact h⟩

theorem wpOp_move {i : Nat} {oi : Oper} {x : Operand} (hi : ops[i]? = some oi) (hx : oi.op = .move x) (hg : oi.guard = none) {K : Act → World → Prop} {Q : Exit → Act → World → Prop} {a : Act} {w : World}
    (h : K (a.put oi.dst (a.eval x)) w) : wpOp P ops Q i K a w := by
  unfold wpOp
  simp only [hi]
  rw [if_pos (by simp [Region.wanted, hg])]
  left
  unfold Oper.wp
  have e : (execOp a.eval oi).run P w = .ok (.value (a.eval x)) w := by simp [execOp, hx, Sem.run_pure]
  rw [e]
  exact h

/-- A read of a variable that is ready may be done first. -/
theorem wpAny_move {i : Nat} {oi : Oper} {x : Operand} {R : Act → World → Prop} {Q : Exit → Act → World → Prop} (hi : ops[i]? = some oi) (hx : oi.op = .move x) (hg : oi.guard = none)
    (hsel : ∀ (j : Nat) (o : Oper) cs b, ops[j]? = some o → o.op ≠ .select cs b) (hR : ∀ a w, R a w → Q .normal a w)
    (hfree : ∀ j oj, ops[j]? = some oj → j ≠ i → (∀ e ∈ oj.after, Region.binds md e = true → e.on ≠ i) → oi.apart ops oj = true) :
    ∀ (f : Nat) (listed : Array Bool) (a : Act) (w : World) (v : Value), i ∈ Region.ready md ops listed → a.eval x = v →
      wpAny P md ops (Qt R) f (listed.setIfInBounds i true) (a.put oi.dst v) w → wpAny P md ops Q (f + 1) listed a w := by
  intro f
  induction f with
  | zero =>
    intro listed a w v hr hv H
    refine ⟨fun h => (by rw [h] at hr; cases hr), fun j hj => ?_⟩
    by_cases hji : j = i
    · subst hji
      exact wpOp_move hi hx hg (by rw [hv]; exact ⟨H.1, hR _ _ H.2⟩)
    · have := ready_mono hj hji
      rw [H.1] at this; cases this
  | succ f ih =>
    intro listed a w v hr hv H
    have hun := (mem_ready.1 hr).1
    refine ⟨fun h => (by rw [h] at hr; cases hr), fun j hj => ?_⟩
    by_cases hji : j = i
    · subst hji
      exact wpOp_move hi hx hg (by rw [hv]; exact wpAny_Qt hR _ _ _ _ H)
    · have h1 := H.2 j (ready_mono hj hji)
      obtain ⟨_, oj, hoj, hall⟩ := mem_ready.1 hj
      have hnot : ∀ e ∈ oj.after, Region.binds md e = true → e.on ≠ i := fun e he hb heq => by
        have h1 := hall e he hb
        rw [heq, getD_both hun] at h1
        cases h1
      have h2 := wpOp_put hx hoj (hfree j oj hoj hji hnot) (fun cs b => hsel j oj cs b hoj) hv h1
      refine wpOp_Qt (wpOp_mono (fun a' w' h3 => ?_) h2)
      refine ih (listed.setIfInBounds j true) a' w' v (ready_mono hr (Ne.symm hji)) h3.1 ?_
      rw [Array.setIfInBounds_comm _ _ hji]
      exact h3.2

/-! ### What is left behind the first -/
def less (o : Oper) : Oper := { o with after := (o.after.filter fun e => e.on != 0).map fun e => { e with on := e.on - 1 } }
theorem less_exec (ρ : Operand → Value) (o : Oper) : execOp ρ (less o) = execOp ρ o := by
  obtain ⟨d, op, t, p, af, g⟩ := o
  cases op <;> rfl
theorem less_wp {o : Oper} {a : Act} {w : World} {K : Act → World → Prop} {Q : Exit → Act → World → Prop} : (less o).wp P a w K Q = o.wp P a w K Q := by
  unfold Oper.wp
  rw [less_exec]
  generalize (execOp a.eval o).run P w = r
  cases r with
  | ok n w' => cases n <;> rfl
  | halt x w' => cases x <;> rfl
theorem less_asks {o : Oper} {a : Act} {w : World} : (less o).asks P a w = o.asks P a w := by
  unfold Oper.asks
  rw [less_exec]
theorem less_wanted {o : Oper} (hg : o.guard = none) (y y' : Nat → Option Bool) : Region.wanted (less o) y = Region.wanted o y' := by
  simp [Region.wanted, less, hg]
theorem wpList_less {Q : Exit → Act → World → Prop} {ops1 ops2 : Array Oper} : ∀ (r : List Oper) (a : Act) (w : World), (∀ o ∈ r, o.guard = none) → wpList P ops1 Q (r.map less) a w = wpList P ops2 Q r a w
  | [], _, _, _ => rfl
  | o :: r, a, w, hg => by
    have hf : wpList P ops1 Q (r.map less) = wpList P ops2 Q r := by
      funext a' w'; exact wpList_less r a' w' fun o h => hg o (by simp [h])
    simp only [List.map_cons, wpList]
    rw [less_wanted (hg o (by simp)) _ (yielded ops2 a.tmps), hf, less_wp, less_asks]
    rfl
theorem ready_less {o0 : Oper} {r : List Oper} {listed : Array Bool} (j : Nat) : j + 1 ∈ Region.ready md (o0 :: r).toArray (true :: listed.toList).toArray ↔ j ∈ Region.ready md (r.map less).toArray listed := by
  rw [mem_ready, mem_ready]
  have e1 : ∀ (k : Nat) (z : Bool), (true :: listed.toList).toArray.getD (k + 1) z = listed.getD k z := fun k z => by
    simp [Array.getD_eq_getD_getElem?]
  have e2 : (o0 :: r).toArray[j + 1]? = r[j]? := by simp
  have e3 : (r.map less).toArray[j]? = (r[j]?).map less := by simp
  rw [e1, e2, e3]
  refine and_congr Iff.rfl ?_
  constructor
  · rintro ⟨o, ho, h⟩
    refine ⟨less o, by rw [ho]; rfl, fun e he hb => ?_⟩
    simp only [less, Array.mem_map, Array.mem_filter] at he
    obtain ⟨e', ⟨he', hne⟩, rfl⟩ := he
    have h1 := h e' he' hb
    have hp : e'.on = (e'.on - 1) + 1 := by have : e'.on ≠ 0 := by simpa using hne
                                            omega
    rw [hp, e1] at h1
    exact h1
  · rintro ⟨o', ho', h⟩
    cases ho : r[j]? with
    | none => rw [ho] at ho'; cases ho'
    | some o =>
      rw [ho] at ho'
      simp at ho'
      subst ho'
      refine ⟨o, rfl, fun e he hb => ?_⟩
      by_cases h0 : e.on = 0
      · rw [h0]; simp [Array.getD_eq_getD_getElem?]
      · have h1 := h { e with on := e.on - 1 } (by simp only [less, Array.mem_map, Array.mem_filter]; exact ⟨e, ⟨he, by simpa using h0⟩, rfl⟩) hb
        rw [show e.on = (e.on - 1) + 1 by omega, e1]
        exact h1
theorem wpAny_less {Q : Exit → Act → World → Prop} {o0 : Oper} {r : List Oper} (hg : ∀ o ∈ r, o.guard = none) : ∀ (f : Nat) (listed : Array Bool) (a : Act) (w : World),
    wpAny P md (r.map less).toArray Q f listed a w → wpAny P md (o0 :: r).toArray Q f (true :: listed.toList).toArray a w := by
  have hr0 : ∀ (listed : Array Bool) (i : Nat), i ∈ Region.ready md (o0 :: r).toArray (true :: listed.toList).toArray → ∃ j, i = j + 1 ∧ j ∈ Region.ready md (r.map less).toArray listed := fun listed i hi => by
    cases i with
    | zero => have := (mem_ready.1 hi).1; simp [Array.getD_eq_getD_getElem?] at this
    | succ j => exact ⟨j, rfl, (ready_less j).1 hi⟩
  have hnil : ∀ listed : Array Bool, Region.ready md (o0 :: r).toArray (true :: listed.toList).toArray = [] → Region.ready md (r.map less).toArray listed = [] := fun listed h => by
    apply List.eq_nil_iff_forall_not_mem.2
    intro j hj
    have := (ready_less (o0 := o0) j).2 hj
    rw [h] at this; cases this
  have hnil' : ∀ listed : Array Bool, Region.ready md (r.map less).toArray listed = [] → Region.ready md (o0 :: r).toArray (true :: listed.toList).toArray = [] := fun listed h => by
    apply List.eq_nil_iff_forall_not_mem.2
    intro i hi
    obtain ⟨j, _, hj⟩ := hr0 listed i hi
    rw [h] at hj; cases hj
  intro f
  induction f with
  | zero => intro listed a w h; exact ⟨hnil' _ h.1, h.2⟩
  | succ f ih =>
    intro listed a w h
    refine ⟨fun e => h.1 (hnil _ e), fun i hi => ?_⟩
    obtain ⟨j, rfl, hj⟩ := hr0 listed i hi
    have h1 := h.2 j hj
    obtain ⟨_, o', ho', _⟩ := mem_ready.1 hj
    have e3 : (r.map less).toArray[j]? = (r[j]?).map less := by simp
    cases ho : r[j]? with
    | none => rw [e3, ho] at ho'; cases ho'
    | some o =>
      have hgo : o.guard = none := hg o (List.mem_of_getElem? ho)
      have e2 : (o0 :: r).toArray[j + 1]? = some o := by simp [ho]
      have es : ((true :: listed.toList).toArray.setIfInBounds (j + 1) true) = (true :: (listed.setIfInBounds j true).toList).toArray := by
        simp [List.set]
      unfold wpOp at h1 ⊢
      rw [e3, ho] at h1
      rw [e2]
      simp only [Option.map_some] at h1 ⊢
      rw [less_wanted hgo _ (yielded (o0 :: r).toArray a.tmps), less_wp, less_asks] at h1
      have hw : Region.wanted o (yielded (o0 :: r).toArray a.tmps) = true := by simp [Region.wanted, hgo]
      rw [if_pos hw] at h1 ⊢
      rw [es]
      exact h1.imp (Oper.wp_mono fun a' w' h' => ih _ a' w' h') id

theorem wpAny_tail {Q : Exit → Act → World → Prop} {a : Act} {w : World} {l : List Oper} (n : Nat) (hB : Region.lexTailB .any l.toArray n = true)
    (h : wpStill P l.toArray w (fun a' => wpList P l.toArray Q (l.drop n) a' w) (l.take n) a) : wpAny P .any l.toArray Q l.length (Array.replicate l.length false) a w := by
  simp only [Region.lexTailB, Bool.and_eq_true, decide_eq_true_eq] at hB
  obtain ⟨⟨⟨⟨h1, h2⟩, h3⟩, h4⟩, h5⟩ := hB
  have hs : l.toArray.size = l.length := by simp
  rw [hs] at h2 h5
  have ht : (l.take n).length = n := by simp; omega
  have inv : HeadInv .any l.toArray n (Array.replicate l.length false) :=
    ⟨by simp, fun j _ _ hl => (by rw [getD_replicate_false] at hl; cases hl), fun t _ ht => getD_in (by simpa using ht) (getD_replicate_false _ _)⟩
  have hlex := wpAnyL_lex (md := .any) (g := l.length - n) h1 h3 h4 (by rw [hs]; exact h2) (l.take n) 0 (Array.replicate l.length false) a (fun j hj => by
    rw [ht] at hj; simp [hj]) (by omega) inv (by rw [ht]; exact h5) h
  have hany := wpAny_of_head (Q' := Q) (g := l.length - n) (fun listed a' hL => by
    have hq := wpAny_of_seq (md := .any) (Q' := Q) (l.drop n) n listed a' w (fun j => by simp [List.getElem?_drop]) (by rw [List.length_drop]; exact hL.1) hL.2
    rwa [List.length_drop] at hq) _ _ _ hlex
  rwa [ht, show n + (l.length - n) = l.length by omega] at hany

def moveB (o : Oper) : Bool := (match o.op with | .move _ => true | _ => false) && o.guard.isNone && o.after.isEmpty
def freeB (o0 : Oper) (r : List Oper) : Bool := r.all fun o => o.guard.isNone && ((o.after.any fun e => Region.binds .any e && e.on == 0) || o0.apart (o0 :: r).toArray o)

/-- **A region that draws its order and begins with a read of a variable**, walked in the order of the text: the next n operations only reckon and read, the others stand in one forced order behind them; only the read may come later. -/
theorem wp_region_text1 {id : Nat} {Q : Exit → Act → World → Prop} {a : Act} {w : World} {o0 : Oper} {r : List Oper} (n : Nat) (hm : P.follows .mixedOrders = true)
    (h0 : moveB o0 = true) (hf : freeB o0 r = true) (hs : Region.noSelect (o0 :: r).toArray = true) (hB : Region.lexTailB .any (r.map less).toArray n = true)
    (hK : ((r.map less).take n).all (headK P) = true) (ho : once (r.map less).toArray ((r.map less).take n) = true)
    (h : ∀ K : Act → World → Prop, (∀ a' w', HeadDone (r.map less).toArray ((r.map less).take n) a' ∧ wpList P (o0 :: r).toArray (Qt fun a w => Q .normal a w) (r.drop n) a' w' → K a' w') →
      wpList P (o0 :: r).toArray (Qt K) (o0 :: r.take n) a w.drew) :
    (Code.region id (o0 :: r).toArray true).wp P Q a w := by
  simp only [moveB, Bool.and_eq_true] at h0
  obtain ⟨⟨h01, h02⟩, h03⟩ := h0
  have hg0 : o0.guard = none := by simpa using h02
  have haf : o0.after = #[] := by simpa using h03
  cases hop : o0.op with
  | move x =>
    have hf' := List.all_eq_true.1 hf
    have hg : ∀ o ∈ r, o.guard = none := fun o h => by
      have := hf' o h
      simp only [Bool.and_eq_true] at this
      simpa using this.1
    refine wp_region_any hm ?_
    have hsz : (o0 :: r).toArray.size = r.length + 1 := by simp
    rw [hsz]
    have hi : (o0 :: r).toArray[0]? = some o0 := by simp
    refine wpAny_move (R := fun a w => Q .normal a w) hi hop hg0 (Region.noSelect_spec hs) (fun _ _ h => h) (fun j oj hj hne hnot => ?_) r.length _ a w.drew (a.eval x) ?_ rfl ?_
    · cases j with
      | zero => exact absurd rfl hne
      | succ j =>
        have hj' : r[j]? = some oj := by simpa using hj
        have := hf' oj (List.mem_of_getElem? hj')
        simp only [Bool.and_eq_true, Bool.or_eq_true] at this
        rcases this.2 with h1 | h1
        · obtain ⟨e, he, hb⟩ := Array.any_eq_true'.1 h1
          simp only [Bool.and_eq_true, beq_iff_eq] at hb
          exact absurd hb.2 (hnot e he hb.1)
        · exact h1
    · exact mem_ready.2 ⟨by simp [Array.getD_eq_getD_getElem?], o0, hi, fun e he => by rw [haf] at he; simp at he⟩
    · have es : (Array.replicate (r.length + 1) false).setIfInBounds 0 true = (true :: (Array.replicate r.length false).toList).toArray := by
        apply Array.ext'
        simp [List.replicate_succ]
      rw [es]
      have hlen : (r.map less).length = r.length := by simp
      refine wpAny_less hg _ _ _ _ ?_
      have htl := wpAny_tail (P := P) (Q := Qt fun a w => Q .normal a w) (a := a.put o0.dst (a.eval x)) (w := w.drew) (l := r.map less) n hB ?_
      · rw [hlen] at htl; exact htl
      · refine text_still (S := fun a' w' => HeadDone (r.map less).toArray ((r.map less).take n) a' ∧ wpList P (r.map less).toArray (Qt fun a w => Q .normal a w) ((r.map less).drop n) a' w') (R := fun a' w' => wpList P (r.map less).toArray (Qt fun a w => Q .normal a w) ((r.map less).drop n) a' w') _ _ _ (fun _ _ h => h) hK ho ?_
        have hk := h (fun a' w' => HeadDone (r.map less).toArray ((r.map less).take n) a' ∧ wpList P (r.map less).toArray (Qt fun a w => Q .normal a w) ((r.map less).drop n) a' w') (fun a' w' h' => ⟨h'.1, by
          rw [← List.map_drop, wpList_less (ops2 := (o0 :: r).toArray) _ _ _ (fun o ho => hg o (List.mem_of_mem_drop ho))]; exact h'.2⟩)
        rw [← List.map_take]
        rw [wpList_less (ops2 := (o0 :: r).toArray) _ _ _ (fun o ho => hg o (List.mem_of_mem_take ho))]
        simp only [wpList] at hk
        rw [if_pos (by simp [Region.wanted, hg0])] at hk
        rcases hk with hk | ⟨_, hk⟩
        · unfold Oper.wp at hk
          have e : (execOp a.eval o0).run P w.drew = .ok (.value (a.eval x)) w.drew := by simp [execOp, hop, Sem.run_pure]
          rw [e] at hk
          rw [List.map_take]
          exact hk
        · exact (no_outgrown hk).elim
  | _ => rw [hop] at h01; cases h01
/-- An operation of a class's region whose guard does not let it. -/
theorem quiet_skip {C : World → Prop} {T : Act → Prop} {o : Oper} {l2 : List Oper} {a : Act} (hg : Region.wanted o (yielded ops a.tmps) = false) (h2 : wpQuiet P ops C T l2 (a.put o.dst undef)) : wpQuiet P ops C T (o :: l2) a := by
  simp only [wpQuiet, hg]
  exact h2
/-- An operation of a class's region that reckons one value in every world of the class and changes none. -/
theorem quiet_op {C : World → Prop} {T : Act → Prop} {o : Oper} {l2 : List Oper} {a : Act} (hg : Region.wanted o (yielded ops a.tmps) = true) (v : Value) (h : ∀ w, C w → (execOp a.eval o).run P w = .ok (.value v) w) (h2 : wpQuiet P ops C T l2 (a.put o.dst v)) : wpQuiet P ops C T (o :: l2) a := by
  simp only [wpQuiet, hg, if_true]
  refine ⟨v, fun w hw => ?_, h2⟩
  unfold Oper.quietAt
  rw [h w hw]
  exact ⟨rfl, rfl⟩
end
end Go.Proofs.Ytnbjpilanjngmaa.XS
